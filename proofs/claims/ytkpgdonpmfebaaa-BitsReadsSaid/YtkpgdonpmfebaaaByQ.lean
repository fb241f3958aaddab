/- The law's readers, as things in memory. -/
import Derived.Test.YtkpgdonpmfebaaaByT
import Derived.Test.YtkpgdonpmfebaaaBwM
namespace Go.Proofs.Ytkpgdonpmfebaaa.Bt
open Go.RowKit Go.Hp
attribute [local go_sem] min2_lean min_two max2_lean max_two
set_option linter.unusedSimpArgs false
set_option linter.unusedVariables false
set_option maxRecDepth 100000
theorem fam_split {ι : Type} [DecidableEq ι] {F : ι → Hp.Own} {w : World} (h : (Own.fam F).holds w) {i j : ι} (hij : i ≠ j) {A B : Hp.Own} (hi : F i = Hp.Own.both A B) (hj : F j = Hp.Own.emp) : Turns w w (Own.fam F) (Own.fam (upd (upd F i A) j B)) := by
  have hh := h.1 i
  rw [hi] at hh
  obtain ⟨hA, hB, hd⟩ := hh
  have hfA : ∀ b, A.foot b → (F i).foot b := fun b hb => by rw [hi]; exact Or.inl hb
  have hfB : ∀ b, B.foot b → (F i).foot b := fun b hb => by rw [hi]; exact Or.inr hb
  have hv : ∀ k b, (upd (upd F i A) j B k).foot b → (k = j ∧ B.foot b) ∨ (k ≠ j ∧ k = i ∧ A.foot b) ∨ (k ≠ j ∧ k ≠ i ∧ (F k).foot b) := fun k b hk => by
    unfold upd at hk
    split at hk
    · rename_i e; exact Or.inl ⟨e, hk⟩
    · split at hk
      · rename_i e1 e2; exact Or.inr (Or.inl ⟨e1, e2, hk⟩)
      · rename_i e1 e2; exact Or.inr (Or.inr ⟨e1, e2, hk⟩)
  refine ⟨Chg.refl _ _, ⟨fun k => ?_, fun k l b hk hl => ?_⟩, fun b hb => ?_⟩
  · unfold upd
    split
    · exact hB
    · split
      · exact hA
      · exact h.1 k
  · rcases hv k b hk with ⟨e1, f1⟩ | ⟨e1, e2, f1⟩ | ⟨e1, e2, f1⟩ <;> rcases hv l b hl with ⟨d1, f2⟩ | ⟨d1, d2, f2⟩ | ⟨d1, d2, f2⟩
    · rw [e1, d1]
    · exact (hd b f2 f1).elim
    · exact absurd (h.2 i l b (hfB b f1) f2).symm d2
    · exact (hd b f1 f2).elim
    · rw [e2, d2]
    · exact absurd (h.2 i l b (hfA b f1) f2).symm d2
    · exact absurd (h.2 k i b f1 (hfB b f2)) e2
    · exact absurd (h.2 k i b f1 (hfA b f2)) e2
    · exact h.2 k l b f1 f2
  · obtain ⟨k, hk⟩ := hb
    rcases hv k b hk with ⟨_, f1⟩ | ⟨_, _, f1⟩ | ⟨_, _, f1⟩
    · exact Or.inl ⟨i, hfB b f1⟩
    · exact Or.inl ⟨i, hfA b f1⟩
    · exact Or.inl ⟨k, f1⟩
inductive JQ where
  | p (k : Nat) | s | a | b | c | wb | xb | d
deriving DecidableEq
/-- Two pairs of readers, of which K are made; the kept lists; what was made last; the arrays. -/
def qf (s x : Nat → RdS) (K : Nat) (S A B C W1 X1 D1 : Hp.Own) : JQ → Hp.Own
  | .p k => if k < K then rp (s k) (x k) else Hp.Own.emp
  | .s => S | .a => A | .b => B | .c => C | .wb => W1 | .xb => X1 | .d => D1
def qo (s x : Nat → RdS) (K : Nat) (S A B C W1 X1 D1 : Hp.Own) : Hp.Own := Own.fam (qf s x K S A B C W1 X1 D1)
theorem qo_emp {s x : Nat → RdS} {w w' : World} (hc : Chg (fun _ => False) w w') : Turns w w' Hp.Own.emp (qo s x 0 Hp.Own.emp Hp.Own.emp Hp.Own.emp Hp.Own.emp Hp.Own.emp Hp.Own.emp Hp.Own.emp) := by
  have e : qo s x 0 Hp.Own.emp Hp.Own.emp Hp.Own.emp Hp.Own.emp Hp.Own.emp Hp.Own.emp Hp.Own.emp = Own.fam (fun _ : JQ => Hp.Own.emp) := Own.fam_as fun i => by cases i <;> simp [qf]
  rw [e]
  exact ⟨hc, ⟨fun i => trivial, fun i j b hi hj => hi.elim⟩, fun b hb => by obtain ⟨i, hi⟩ := hb; exact hi.elim⟩
variable {s x : Nat → RdS} {K : Nat} {w W W' : World} {O O' S A B C W1 X1 D1 : Hp.Own}
theorem qo_s (h : Turns w W O (qo s x K S A B C W1 X1 D1)) (t : Turns W W' S O') : Turns w W' O (qo s x K O' A B C W1 X1 D1) :=
  (h.trans (Turns.famE h.now .s rfl t)).to (Own.fam_as fun i => by cases i <;> rfl)
theorem qo_at_s (h : Turns w W O (qo s x K S A B C W1 X1 D1)) : S.holds W := h.now.1 .s
theorem qo_a (h : Turns w W O (qo s x K S A B C W1 X1 D1)) (t : Turns W W' A O') : Turns w W' O (qo s x K S O' B C W1 X1 D1) :=
  (h.trans (Turns.famE h.now .a rfl t)).to (Own.fam_as fun i => by cases i <;> rfl)
theorem qo_at_a (h : Turns w W O (qo s x K S A B C W1 X1 D1)) : A.holds W := h.now.1 .a
theorem qo_b (h : Turns w W O (qo s x K S A B C W1 X1 D1)) (t : Turns W W' B O') : Turns w W' O (qo s x K S A O' C W1 X1 D1) :=
  (h.trans (Turns.famE h.now .b rfl t)).to (Own.fam_as fun i => by cases i <;> rfl)
theorem qo_at_b (h : Turns w W O (qo s x K S A B C W1 X1 D1)) : B.holds W := h.now.1 .b
theorem qo_c (h : Turns w W O (qo s x K S A B C W1 X1 D1)) (t : Turns W W' C O') : Turns w W' O (qo s x K S A B O' W1 X1 D1) :=
  (h.trans (Turns.famE h.now .c rfl t)).to (Own.fam_as fun i => by cases i <;> rfl)
theorem qo_at_c (h : Turns w W O (qo s x K S A B C W1 X1 D1)) : C.holds W := h.now.1 .c
theorem qo_wb (h : Turns w W O (qo s x K S A B C W1 X1 D1)) (t : Turns W W' W1 O') : Turns w W' O (qo s x K S A B C O' X1 D1) :=
  (h.trans (Turns.famE h.now .wb rfl t)).to (Own.fam_as fun i => by cases i <;> rfl)
theorem qo_at_wb (h : Turns w W O (qo s x K S A B C W1 X1 D1)) : W1.holds W := h.now.1 .wb
theorem qo_xb (h : Turns w W O (qo s x K S A B C W1 X1 D1)) (t : Turns W W' X1 O') : Turns w W' O (qo s x K S A B C W1 O' D1) :=
  (h.trans (Turns.famE h.now .xb rfl t)).to (Own.fam_as fun i => by cases i <;> rfl)
theorem qo_at_xb (h : Turns w W O (qo s x K S A B C W1 X1 D1)) : X1.holds W := h.now.1 .xb
theorem qo_d (h : Turns w W O (qo s x K S A B C W1 X1 D1)) (t : Turns W W' D1 O') : Turns w W' O (qo s x K S A B C W1 X1 O') :=
  (h.trans (Turns.famE h.now .d rfl t)).to (Own.fam_as fun i => by cases i <;> rfl)
theorem qo_at_d (h : Turns w W O (qo s x K S A B C W1 X1 D1)) : D1.holds W := h.now.1 .d
def putr (f : Nat → RdS) (k : Nat) (y : RdS) : Nat → RdS := fun j => if j = k then y else f j
/-- A pair reads, and may lay aside. -/
theorem qo_ps (h : Turns w W O (qo s x K S A B C W1 X1 D1)) {k : Nat} (hk : k < K) {y z : RdS} {S' : Hp.Own} (t : Turns W W' (Hp.Own.both (rp (s k) (x k)) S) (Hp.Own.both (rp y z) S')) : Turns w W' O (qo (putr s k y) (putr x k z) K S' A B C W1 X1 D1) := by
  have t1 := Turns.fam2 h.now (i := JQ.p k) (j := JQ.s) (by simp) (show qf s x K S A B C W1 X1 D1 (JQ.p k) = rp (s k) (x k) by simp [qf, hk]) rfl t
  have t2 := fam_split t1.now (i := JQ.p k) (j := JQ.s) (by simp) (A := rp y z) (B := S') (by simp [upd]) (by simp [upd])
  refine (h.trans (t1.trans t2)).to (Own.fam_as fun i => ?_)
  cases i with
  | p j => by_cases hj : j = k <;> simp [upd, qf, putr, hj, hk]
  | s => simp [upd, qf]
  | _ => simp [upd, qf]
theorem qo_P (h : Turns w W O (qo s x K S A B C W1 X1 D1)) {k : Nat} (hk : k < K) : (rp (s k) (x k)).holds W := by
  have := h.now.1 (.p k)
  simpa [qf, hk] using this
theorem qo_PS (h : Turns w W O (qo s x K S A B C W1 X1 D1)) {k : Nat} (hk : k < K) : (Hp.Own.both (rp (s k) (x k)) S).holds W := Own.fam_both (i := JQ.p k) (j := JQ.s) h.now (by simp) (by simp [qf, hk]) rfl
theorem qo_pair {y z : RdS} (h : Turns w W O (qo s x K S A y.own z.xown W1 X1 D1)) : Turns w W O (qo (putr s K y) (putr x K z) (K + 1) S A Hp.Own.emp Hp.Own.emp W1 X1 D1) := by
  have t1 := Turns.fam2 h.now (i := JQ.b) (j := JQ.c) (by simp) rfl rfl (Turns.refl (show (rp y z).holds W from Own.fam_both (i := JQ.b) (j := JQ.c) h.now (by simp) rfl rfl))
  have t2 := fam_move t1.now (i := JQ.b) (j := JQ.p K) (by simp) (by simp [upd, qf])
  refine (h.trans (t1.trans t2)).to (Own.fam_as fun i => ?_)
  cases i with
  | p j =>
    by_cases hj : j = K
    · subst hj; simp [upd, qf, putr, rp]
    · simp only [upd, qf, putr, JQ.p.injEq, if_neg hj, reduceCtorEq, if_false]
      by_cases h2 : j < K
      · rw [if_pos h2, if_pos (by omega)]
      · rw [if_neg h2, if_neg (by omega)]
  | b => simp [upd, qf]
  | c => simp [upd, qf]
  | _ => rfl
/-- The readers' shape: the document's beside the program's; their places. -/
structure Rds (s x : Nat → RdS) (cs ds : Array Value) (K B : Nat) : Prop where
  tw : ∀ k, k < K → Tw (s k) (x k)
  at_ : ∀ k, k < K → cs[k]? = some (.pointer (some ⟨(s k).g, 0, none⟩))
  xat : ∀ k, k < K → ds[k]? = some (.pointer (some ⟨(x k).g, 0, none⟩))
  ok : ∀ k, k < K → (s k).at_ ≤ (s k).bs.length ∧ (s k).bs.length ≤ B
theorem Rds.good {s x : Nat → RdS} {cs ds : Array Value} {K B : Nat} (h : Rds s x cs ds K B) (hB : B ≤ 140737488355328) {k : Nat} (hk : k < K) : (s k).good ∧ (x k).good := by
  have h1 := h.ok k hk
  obtain ⟨t1, t2, t3⟩ := h.tw k hk
  refine ⟨⟨h1.1, by omega⟩, ⟨?_, ?_⟩⟩
  · rw [t1, t2]; exact h1.1
  · rw [t1]; omega
theorem Rds.stp {s x : Nat → RdS} {cs ds : Array Value} {K B : Nat} (h : Rds s x cs ds K B) {k : Nat} (hk : k < K) (i n : Int) : Rds (putr s k (stp (s k) i n)) (putr x k (stp (x k) i n)) cs ds K B := by
  have h1 := stp_ke (s k) i n (h.ok k hk).1
  have hx : (x k).at_ ≤ (x k).bs.length := by obtain ⟨t1, t2, t3⟩ := h.tw k hk; rw [t1, t2]; exact (h.ok k hk).1
  have h2 := stp_ke (x k) i n hx
  refine ⟨fun j hj => ?_, fun j hj => ?_, fun j hj => ?_, fun j hj => ?_⟩ <;> unfold putr <;> by_cases e : j = k
  · rw [if_pos e, if_pos e]; exact (h.tw k hk).stp i n
  · rw [if_neg e, if_neg e]; exact h.tw j hj
  · rw [if_pos e, h1.1]; subst e; exact h.at_ j hj
  · rw [if_neg e]; exact h.at_ j hj
  · rw [if_pos e, h2.1]; subst e; exact h.xat j hj
  · rw [if_neg e]; exact h.xat j hj
  · rw [if_pos e, h1.2.1]; rw [← h1.2.1]; exact ⟨h1.2.2, by rw [h1.2.1]; exact (h.ok k hk).2⟩
  · rw [if_neg e]; exact h.ok j hj
theorem Rds.new {s x : Nat → RdS} {cs ds : Array Value} {K B : Nat} (h : Rds s x cs ds K B) (hc : K < cs.size) (hd : K < ds.size) (g g' : Nat) (v v' : Value) (bs : List UInt8) (hb : bs.length ≤ B) :
    Rds (putr s K (RdS.mk g v bs 0 0)) (putr x K (RdS.mk g' v' bs 0 0)) (cs.setIfInBounds K (.pointer (some ⟨g, 0, none⟩))) (ds.setIfInBounds K (.pointer (some ⟨g', 0, none⟩))) (K + 1) B := by
  refine ⟨fun j hj => ?_, fun j hj => ?_, fun j hj => ?_, fun j hj => ?_⟩ <;> unfold putr <;> by_cases e : j = K
  · rw [if_pos e, if_pos e]; exact ⟨rfl, rfl, rfl⟩
  · rw [if_neg e, if_neg e]; exact h.tw j (by omega)
  · subst e; rw [if_pos rfl, Array.getElem?_setIfInBounds_self_of_lt hc]
  · rw [if_neg e, Array.getElem?_setIfInBounds_ne (fun h => e h.symm)]; exact h.at_ j (by omega)
  · subst e; rw [if_pos rfl, Array.getElem?_setIfInBounds_self_of_lt hd]
  · rw [if_neg e, Array.getElem?_setIfInBounds_ne (fun h => e h.symm)]; exact h.xat j (by omega)
  · rw [if_pos e]; exact ⟨Nat.zero_le _, hb⟩
  · rw [if_neg e]; exact h.ok j (by omega)
end Go.Proofs.Ytkpgdonpmfebaaa.Bt
