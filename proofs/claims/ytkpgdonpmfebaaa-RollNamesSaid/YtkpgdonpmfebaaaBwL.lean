/- The law's writers, as things in memory. -/
import Derived.Test.YtkpgdonpmfebaaaBsE
namespace Go.Proofs.Ytkpgdonpmfebaaa.Bt
open Go.RowKit Go.Hp
attribute [local go_sem] min2_lean min_two max2_lean max_two
set_option linter.unusedSimpArgs false
set_option linter.unusedVariables false
set_option maxRecDepth 100000
inductive JP where
  | p (k : Nat) | s | a | b | c | wb | xb
deriving DecidableEq
/-- Two pairs of writers, of which K are made; the kept lists; what was handed out last; the two arrays. -/
def pf (s x : Nat → WrS) (K : Nat) (S A B C W X : Hp.Own) : JP → Hp.Own
  | .p k => if k < K then pw (s k) (x k) else Hp.Own.emp
  | .s => S | .a => A | .b => B | .c => C | .wb => W | .xb => X
def po (s x : Nat → WrS) (K : Nat) (S A B C W X : Hp.Own) : Hp.Own := Own.fam (pf s x K S A B C W X)
theorem po_emp {s x : Nat → WrS} {w w' : World} (hc : Chg (fun _ => False) w w') : Turns w w' Hp.Own.emp (po s x 0 Hp.Own.emp Hp.Own.emp Hp.Own.emp Hp.Own.emp Hp.Own.emp Hp.Own.emp) := by
  have e : po s x 0 Hp.Own.emp Hp.Own.emp Hp.Own.emp Hp.Own.emp Hp.Own.emp Hp.Own.emp = Own.fam (fun _ : JP => Hp.Own.emp) := Own.fam_as fun i => by cases i <;> simp [pf]
  rw [e]
  exact ⟨hc, ⟨fun i => trivial, fun i j b hi hj => hi.elim⟩, fun b hb => by obtain ⟨i, hi⟩ := hb; exact hi.elim⟩
variable {s x : Nat → WrS} {K : Nat} {w W W' : World} {O S A B C D X O' : Hp.Own}
theorem po_s (h : Turns w W O (po s x K S A B C D X)) (t : Turns W W' S O') : Turns w W' O (po s x K O' A B C D X) :=
  (h.trans (Turns.famE h.now .s rfl t)).to (Own.fam_as fun i => by cases i <;> rfl)
theorem po_a (h : Turns w W O (po s x K S A B C D X)) (t : Turns W W' A O') : Turns w W' O (po s x K S O' B C D X) :=
  (h.trans (Turns.famE h.now .a rfl t)).to (Own.fam_as fun i => by cases i <;> rfl)
theorem po_b (h : Turns w W O (po s x K S A B C D X)) (t : Turns W W' B O') : Turns w W' O (po s x K S A O' C D X) :=
  (h.trans (Turns.famE h.now .b rfl t)).to (Own.fam_as fun i => by cases i <;> rfl)
theorem po_c (h : Turns w W O (po s x K S A B C D X)) (t : Turns W W' C O') : Turns w W' O (po s x K S A B O' D X) :=
  (h.trans (Turns.famE h.now .c rfl t)).to (Own.fam_as fun i => by cases i <;> rfl)
theorem po_wb (h : Turns w W O (po s x K S A B C D X)) (t : Turns W W' D O') : Turns w W' O (po s x K S A B C O' X) :=
  (h.trans (Turns.famE h.now .wb rfl t)).to (Own.fam_as fun i => by cases i <;> rfl)
theorem po_xb (h : Turns w W O (po s x K S A B C D X)) (t : Turns W W' X O') : Turns w W' O (po s x K S A B C D O') :=
  (h.trans (Turns.famE h.now .xb rfl t)).to (Own.fam_as fun i => by cases i <;> rfl)
theorem po_sa (h : Turns w W O (po s x K S A B C D X)) (t : Turns W W' (Hp.Own.both S A) O') : Turns w W' O (po s x K O' Hp.Own.emp B C D X) :=
  (h.trans (Turns.fam2 h.now (i := JP.s) (j := JP.a) (by simp) rfl rfl t)).to (Own.fam_as fun i => by cases i <;> rfl)
theorem po_sb (h : Turns w W O (po s x K S A B C D X)) (t : Turns W W' (Hp.Own.both S B) O') : Turns w W' O (po s x K O' A Hp.Own.emp C D X) :=
  (h.trans (Turns.fam2 h.now (i := JP.s) (j := JP.b) (by simp) rfl rfl t)).to (Own.fam_as fun i => by cases i <;> rfl)
theorem po_bothA (h : Turns w W O (po s x K S A B C D X)) : (Hp.Own.both S A).holds W := Own.fam_both (i := JP.s) (j := JP.a) h.now (by simp) rfl rfl
theorem po_bothB (h : Turns w W O (po s x K S A B C D X)) : (Hp.Own.both S B).holds W := Own.fam_both (i := JP.s) (j := JP.b) h.now (by simp) rfl rfl
def put (f : Nat → WrS) (k : Nat) (y : WrS) : Nat → WrS := fun j => if j = k then y else f j
/-- A pair writes. -/
theorem po_p (h : Turns w W O (po s x K S A B C D X)) {k : Nat} (hk : k < K) {y z : WrS} (t : Turns W W' (pw (s k) (x k)) (pw y z)) : Turns w W' O (po (put s k y) (put x k z) K S A B C D X) :=
  (h.trans (Turns.famE h.now (.p k) (by simp [pf, hk]) t)).to (Own.fam_as fun i => by
    cases i with
    | p j => by_cases hj : j = k <;> simp [upd, pf, put, hj, hk]
    | _ => rfl)
/-- A pair is made. -/
theorem po_new (h : Turns w W O (po s x K S A B C D X)) {y z : WrS} (t : Turns W W' Hp.Own.emp (pw y z)) : Turns w W' O (po (put s K y) (put x K z) (K + 1) S A B C D X) :=
  (h.trans (Turns.famE h.now (.p K) (by simp [pf]) t)).to (Own.fam_as fun i => by
    cases i with
    | p j =>
      by_cases hj : j = K
      · simp [upd, pf, put, hj]
      · simp only [upd, pf, put, JP.p.injEq, if_neg hj]
        by_cases h2 : j < K
        · rw [if_pos h2, if_pos (by omega)]
        · rw [if_neg h2, if_neg (by omega)]
    | _ => rfl)
theorem po_P (h : Turns w W O (po s x K S A B C D X)) {k : Nat} (hk : k < K) : (pw (s k) (x k)).holds W := by
  have := h.now.1 (.p k)
  simpa [pf, hk] using this
theorem po_S (h : Turns w W O (po s x K S A B C D X)) : S.holds W := h.now.1 .s
theorem po_A (h : Turns w W O (po s x K S A B C D X)) : A.holds W := h.now.1 .a
theorem po_B (h : Turns w W O (po s x K S A B C D X)) : B.holds W := h.now.1 .b
theorem po_C (h : Turns w W O (po s x K S A B C D X)) : C.holds W := h.now.1 .c
theorem po_D (h : Turns w W O (po s x K S A B C D X)) : D.holds W := h.now.1 .wb
theorem po_X (h : Turns w W O (po s x K S A B C D X)) : X.holds W := h.now.1 .xb
/-- What Done tells. -/
def dnB (bs : List UInt8) (bad : Bool) : List UInt8 := if bad then [] else bs
def dnE (bad : Bool) : Int := if bad then 1 else 0
def rb (A : Option Addr) (n c : Nat) (bs : List UInt8) : Hp.Own := Hp.Own.row 5 1 (.slice A n c) n (bs.map bv)
theorem done_any (s : WrS) (w : World) (m : Nat) (hm : (dnB s.bs s.bad).length = m) (hs : s.own.holds w) (hl : s.bs.length ≤ 140737488355328) :
    Calls Try.prog 18 #[.pointer (some ⟨s.g, 0, none⟩)] w fun r w' => ∃ A c, r = .returned (.tuple #[.slice A m c, .int .i64 (dnE s.bad)]) ∧ Turns w w' Hp.Own.emp (rb A m c (dnB s.bs s.bad)) := by
  subst hm
  obtain ⟨g, v, bs, bad⟩ := s
  cases bad
  · refine (done_ok ⟨g, v, bs, false⟩ w hs rfl hl).mono ?_
    rintro r w' ⟨o, rfl, ht, _⟩
    obtain ⟨A, c, rfl⟩ := row_slice ht.now
    exact ⟨A, c, rfl, ht⟩
  · refine (done_bad ⟨g, v, bs, true⟩ w hs rfl).mono ?_
    rintro r w' ⟨rfl, rfl⟩
    exact ⟨none, 0, rfl, ⟨Chg.refl _ _, World.ownsRow_nil _ _ _ _, fun b hb => by cases hb⟩⟩
theorem xdone_any (s : WrS) (w : World) (m : Nat) (hm : (dnB s.bs s.bad).length = m) (hs : s.xown.holds w) (hl : s.bs.length ≤ 140737488355328) :
    Calls Try.prog 19 #[.pointer (some ⟨s.g, 0, none⟩)] w fun r w' => ∃ A c, r = .returned (.tuple #[.slice A m c, .int .i64 (dnE s.bad)]) ∧ Turns w w' Hp.Own.emp (rb A m c (dnB s.bs s.bad)) := by
  subst hm
  obtain ⟨g, v, bs, bad⟩ := s
  cases bad
  · refine (xdone_ok ⟨g, v, bs, false⟩ w hs rfl hl).mono ?_
    rintro r w' ⟨o, rfl, ht⟩
    obtain ⟨A, c, rfl⟩ := row_slice ht.now
    exact ⟨A, c, rfl, ht⟩
  · refine (xdone_bad ⟨g, v, bs, true⟩ w hs rfl).mono ?_
    rintro r w' ⟨rfl, rfl⟩
    exact ⟨none, 0, rfl, ⟨Chg.refl _ _, World.ownsRow_nil _ _ _ _, fun b hb => by cases hb⟩⟩
theorem same_rb (A B : Option Addr) (n c d : Nat) (bs : List UInt8) (w : World) (hs : (rb A n c bs).holds w) (ht : (rb B n d bs).holds w) (hn : n ≤ 140737488355328) :
    Calls Try.prog 20 #[.slice A n c, .slice B n d] w fun e w' => e = .returned (.bool true) ∧ Chg (fun _ => False) w w' := by
  refine (Kb.same_src A B n c d (bs.map bv) w (Src.of_own (show w.ownsRow 0 5 1 (.slice A n c) n (bs.map bv) from hs)) (Src.of_own (show w.ownsRow 0 5 1 (.slice B n d) n (bs.map bv) from ht)) ⟨bs, rfl⟩ hn).mono ?_
  rintro e w' ⟨rfl, q, rfl⟩
  exact ⟨rfl, (Chg.refl _ _).drewN q⟩
theorem gd_bv (bs : List UInt8) : Kb.Gd (bs.map bv) := ⟨bs, rfl⟩
theorem dnB_le (bs : List UInt8) (bad : Bool) : (dnB bs bad).length ≤ bs.length := by unfold dnB; cases bad <;> simp
theorem wrB_len (bs : List UInt8) (bad : Bool) {x : ItA} (h : x.fits) : (wrB bs bad x).1.length ≤ bs.length + x.s.size + 10 := by
  unfold wrB
  split
  · simp only []; omega
  · split
    · simp only []; omega
    · have := (enc_len h).2
      simp only [List.length_append]
      omega
/-- The writers' shape: the document's beside the program's; their places; their bulk. -/
structure Pairs (s x : Nat → WrS) (cs ds : Array Value) (K T : Nat) : Prop where
  bs : ∀ k, k < K → (x k).bs = (s k).bs
  bad : ∀ k, k < K → (x k).bad = (s k).bad
  at_ : ∀ k, k < K → cs[k]? = some (.pointer (some ⟨(s k).g, 0, none⟩))
  xat : ∀ k, k < K → ds[k]? = some (.pointer (some ⟨(x k).g, 0, none⟩))
  len : ∀ k, k < K → (s k).bs.length ≤ T
theorem Pairs.put {s x : Nat → WrS} {cs ds : Array Value} {K T : Nat} (h : Pairs s x cs ds K T) {k : Nat} (hk : k < K) {it : ItA} (hf : it.fits) (v v' : Value) (T' : Nat) (hT : T + it.s.size + 10 ≤ T') :
    Pairs (put s k (WrS.mk (s k).g v (wrB (s k).bs (s k).bad it).1 (wrB (s k).bs (s k).bad it).2)) (put x k (WrS.mk (x k).g v' (wrB (s k).bs (s k).bad it).1 (wrB (s k).bs (s k).bad it).2)) cs ds K T' := by
  have hl := h.len
  refine ⟨fun j hj => ?_, fun j hj => ?_, fun j hj => ?_, fun j hj => ?_, fun j hj => ?_⟩ <;> unfold Bt.put <;> by_cases e : j = k
  · rw [if_pos e, if_pos e]
  · rw [if_neg e, if_neg e]; exact h.bs j hj
  · rw [if_pos e, if_pos e]
  · rw [if_neg e, if_neg e]; exact h.bad j hj
  · rw [if_pos e]; subst e; exact h.at_ j hj
  · rw [if_neg e]; exact h.at_ j hj
  · rw [if_pos e]; subst e; exact h.xat j hj
  · rw [if_neg e]; exact h.xat j hj
  · rw [if_pos e]
    have := wrB_len (s k).bs (s k).bad hf
    have := hl k hk
    simp only []
    omega
  · rw [if_neg e]
    have := hl j hj
    omega
theorem Pairs.wide {s x : Nat → WrS} {cs ds : Array Value} {K T T' : Nat} (h : Pairs s x cs ds K T) (hT : T ≤ T') : Pairs s x cs ds K T' := ⟨h.bs, h.bad, h.at_, h.xat, fun k hk => Nat.le_trans (h.len k hk) hT⟩
end Go.Proofs.Ytkpgdonpmfebaaa.Bt
