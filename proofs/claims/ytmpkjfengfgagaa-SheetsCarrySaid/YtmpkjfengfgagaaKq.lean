/- What was handed out is kept twice: as it lies, and as it must read. Plain lemmas on worlds. -/
import Derived.Test.YtmpkjfengfgagaaKp
namespace Go.Hp
open Go.RowKit
set_option linter.unusedSimpArgs false
set_option linter.unusedVariables false
inductive KI where
  | box | outs | wants | o (i : Nat) | c (i : Nat)
deriving DecidableEq
structure KS where
  g : Nat
  ov : Value
  wv : Value
  out : Nat → Value
  want : Nat → Value
  len : Nat → Nat
  xs : Nat → List Value
/-- N things are kept, and the first d of them have grown. -/
def KS.fam (k : KS) (T SE E : TypeId) (N d : Nat) : KI → Own
  | .box => Own.blk k.g #[k.ov, k.wv] T
  | .outs => Own.row SE 1 k.ov (N + d) ((List.range (N + d)).map k.out)
  | .wants => Own.row SE 1 k.wv (N + d) ((List.range (N + d)).map k.want)
  | .o i => if i < d then Own.pre E (k.out i) (k.len i) (k.xs i) (k.out (N + i)) (k.len (N + i)) (k.xs (N + i)) else if i < N then Own.row E 1 (k.out i) (k.len i) (k.xs i) else Own.emp
  | .c i => if i < N + d then Own.row E 1 (k.want i) (k.len i) (k.xs i) else Own.emp
def KS.own (k : KS) (T SE E : TypeId) (N d : Nat) : Own := Own.fam (k.fam T SE E N d)
theorem Own.fam_take {ι : Type} [DecidableEq ι] {F : ι → Own} {w : World} {A : Own} (i : ι) (hi : F i = Own.emp) (h : (Own.both (Own.fam F) A).holds w) : Turns w w (Own.both (Own.fam F) A) (Own.fam (upd F i A)) := by
  refine ⟨Chg.refl _ _, ⟨fun j => ?_, fun j k b hj hk => ?_⟩, fun b hb => ?_⟩
  · unfold upd
    split
    · exact h.2.1
    · exact h.1.1 j
  · unfold upd at hj hk
    split at hj <;> split at hk
    · rename_i e1 e2; rw [e1, e2]
    · exact (h.2.2 b ⟨k, hk⟩ hj).elim
    · exact (h.2.2 b ⟨j, hj⟩ hk).elim
    · exact h.1.2 j k b hj hk
  · obtain ⟨j, hj⟩ := hb
    unfold upd at hj
    split at hj
    · exact Or.inl (Or.inr hj)
    · exact Or.inl (Or.inl ⟨j, hj⟩)
variable {k : KS} {T SE E : TypeId} {N d : Nat} {w : World}
theorem KS.reads (h : (k.own T SE E N d).holds w) (hd : d ≤ N) {i : Nat} (hi : i < N + d) : Src w (k.out i) (k.len i) 1 (k.xs i) ∧ Src w (k.want i) (k.len i) 1 (k.xs i) := by
  have h1 := h.1 (.c i)
  simp only [KS.fam, if_pos hi] at h1
  refine ⟨?_, Src.of_own (show w.ownsRow 0 E 1 (k.want i) (k.len i) (k.xs i) from h1)⟩
  by_cases hid : i < d
  · have h2 := h.1 (.o i)
    simp only [KS.fam, if_pos hid] at h2
    exact Own.pre_old h2
  · by_cases hiN : i < N
    · have h2 := h.1 (.o i)
      simp only [KS.fam, if_neg hid, if_pos hiN] at h2
      exact Src.of_own (show w.ownsRow 0 E 1 (k.out i) (k.len i) (k.xs i) from h2)
    · obtain ⟨j, rfl⟩ : ∃ j, i = N + j := ⟨i - N, by omega⟩
      have h2 := h.1 (.o j)
      simp only [KS.fam, if_pos (show j < d by omega)] at h2
      exact Src.of_own (Own.pre_row h2)
theorem KS.box (h : (k.own T SE E N d).holds w) : Blk w k.g #[k.ov, k.wv] T := h.1 .box
theorem KS.outs (h : (k.own T SE E N d).holds w) : w.ownsRow 0 SE 1 k.ov (N + d) ((List.range (N + d)).map k.out) := h.1 .outs
theorem KS.wants (h : (k.own T SE E N d).holds w) : w.ownsRow 0 SE 1 k.wv (N + d) ((List.range (N + d)).map k.want) := h.1 .wants
theorem row_at {w : World} {g n c : Nat} {E : TypeId} {xs : List Value} (h : w.ownsRow 0 E 1 (.slice (some ⟨g, 0, none⟩) n c) n xs) (j : Nat) {u : Value} (hu : xs[j]? = some u) :
    w.cell? ⟨g, j, none⟩ = some u ∧ w.frozen? ⟨g, j, none⟩ = false := by
  have hjl : j < n := by have := (List.getElem?_eq_some_iff.1 hu).1; have := h.1; omega
  refine ⟨?_, ?_⟩
  · have := World.ownsRow.cells (g := g) h rfl j u hu
    have ha : (⟨g, 0, none⟩ : Addr).add j = ⟨g, j, none⟩ := by unfold Addr.add; split <;> simp_all
    rwa [ha] at this
  · rcases h.2 with ⟨_, h0⟩ | ⟨g', cap, cur, hv, _, hg, _⟩
    · omega
    · simp only [Value.slice.injEq, Option.some.injEq, Addr.mk.injEq, and_true, true_and] at hv
      obtain ⟨rfl, rfl⟩ := hv
      exact Blk.frozen hg j
theorem range_at {α : Type} (f : Nat → α) {M i : Nat} (h : i < M) : ((List.range M).map f)[i]? = some (f i) := by
  rw [List.getElem?_map, List.getElem?_range h]; rfl
/-- The place of the i-th slice, and what lies there. -/
theorem KS.at_ (h : (k.own T SE E N d).holds w) {i : Nat} (hi : i < N + d) : ∃ go co gw cw, k.ov = .slice (some ⟨go, 0, none⟩) (N + d) co ∧ k.wv = .slice (some ⟨gw, 0, none⟩) (N + d) cw ∧
    w.cell? ⟨go, i, none⟩ = some (k.out i) ∧ w.cell? ⟨gw, i, none⟩ = some (k.want i) := by
  have h1 := KS.outs h
  have h2 := KS.wants h
  obtain ⟨go, co, e1, _, _⟩ := row_form h1 (by omega)
  obtain ⟨gw, cw, e2, _, _⟩ := row_form h2 (by omega)
  rw [e1] at h1
  rw [e2] at h2
  exact ⟨go, co, gw, cw, e1, e2, (row_at h1 i (range_at _ hi)).1, (row_at h2 i (range_at _ hi)).1⟩
theorem Own.fam_chg {ι : Type} {F : ι → Own} {w w' : World} (h : (Own.fam F).holds w) (hc : Chg (fun _ => False) w w') : (Own.fam F).holds w' := Own.chg h hc (fun _ _ hf => hf)
theorem Turns.famE {ι : Type} [DecidableEq ι] {F : ι → Own} {w w' : World} {O O' : Own} (h : (Own.fam F).holds w) (i : ι) (hi : F i = O) (ht : Turns w w' O O') : Turns w w' (Own.fam F) (Own.fam (upd F i O')) := by
  subst hi
  exact Turns.fam h i ht
/-- One more. -/
def KS.add (k : KS) (M : Nat) (ov wv x y : Value) (n : Nat) (zs : List Value) : KS :=
  ⟨k.g, ov, wv, fun i => if i = M then x else k.out i, fun i => if i = M then y else k.want i, fun i => if i = M then n else k.len i, fun i => if i = M then zs else k.xs i⟩
theorem range_add {α : Type} (f : Nat → α) (M : Nat) (x : α) : (List.range (M + 1)).map (fun i => if i = M then x else f i) = (List.range M).map f ++ [x] := by
  rw [List.range_succ, List.map_append]
  congr 1
  · refine List.map_congr_left fun i hi => ?_
    have := List.mem_range.1 hi
    rw [if_neg (by omega)]
  · simp
theorem KS.kept (k : KS) (T SE E : TypeId) (N : Nat) (ov wv x y : Value) (n : Nat) (zs : List Value) (b0 : Own) :
    ∀ i, upd (upd (upd (upd (upd (upd (k.fam T SE E N 0) (.o N) (Own.row E 1 x n zs)) .outs (Own.row SE 1 ov (N + 1) ((List.range N).map k.out ++ [x]))) .box b0) (.c N) (Own.row E 1 y n zs)) .wants (Own.row SE 1 wv (N + 1) ((List.range N).map k.want ++ [y]))) .box (Own.blk k.g #[ov, wv] T) i = (k.add N ov wv x y n zs).fam T SE E (N + 1) 0 i := by
  intro i
  cases i with
  | box => rfl
  | outs =>
    show Own.row SE 1 ov (N + 1) _ = Own.row SE 1 ov (N + 1 + 0) ((List.range (N + 1 + 0)).map _)
    rw [Nat.add_zero]
    show _ = Own.row SE 1 ov (N + 1) ((List.range (N + 1)).map (fun i => if i = N then x else k.out i))
    rw [range_add]
  | wants =>
    show Own.row SE 1 wv (N + 1) _ = Own.row SE 1 wv (N + 1 + 0) ((List.range (N + 1 + 0)).map _)
    rw [Nat.add_zero]
    show _ = Own.row SE 1 wv (N + 1) ((List.range (N + 1)).map (fun i => if i = N then y else k.want i))
    rw [range_add]
  | o i =>
    by_cases h : i = N
    · subst h
      simp [upd, KS.fam, KS.add]
    · simp only [upd, KS.fam, KS.add, reduceCtorEq, if_false, KI.o.injEq, if_neg h, Nat.not_lt_zero]
      by_cases h2 : i < N
      · rw [if_pos h2, if_pos (by omega)]
      · rw [if_neg h2, if_neg (by omega)]
  | c i =>
    by_cases h : i = N
    · subst h
      simp [upd, KS.fam, KS.add]
    · simp only [upd, KS.fam, KS.add, reduceCtorEq, if_false, KI.c.injEq, if_neg h, Nat.add_zero]
      by_cases h2 : i < N
      · rw [if_pos h2, if_pos (by omega)]
      · rw [if_neg h2, if_neg (by omega)]
/-- One has turned, in both. -/
def KS.put (k : KS) (i : Nat) (zs : List Value) : KS := ⟨k.g, k.ov, k.wv, k.out, k.want, k.len, fun j => if j = i then zs else k.xs j⟩
theorem KS.marked (k : KS) (T SE E : TypeId) (N i : Nat) (hi : i < N) (zs : List Value) :
    ∀ j, upd (upd (k.fam T SE E N 0) (.o i) (Own.row E 1 (k.out i) (k.len i) zs)) (.c i) (Own.row E 1 (k.want i) (k.len i) zs) j = (k.put i zs).fam T SE E N 0 j := by
  intro j
  cases j with
  | box => rfl
  | outs => rfl
  | wants => rfl
  | o j =>
    by_cases h : j = i
    · subst h
      simp [upd, KS.fam, KS.put, hi]
    · simp [upd, KS.fam, KS.put, h]
  | c j =>
    by_cases h : j = i
    · subst h
      simp [upd, KS.fam, KS.put, hi]
    · simp [upd, KS.fam, KS.put, h]
/-- One has grown, in both. -/
theorem KS.grew (k : KS) (T SE E : TypeId) (N d : Nat) (hd : d < N) (ov wv x y : Value) (n : Nat) (zs : List Value) (b0 : Own) :
    ∀ i, upd (upd (upd (upd (upd (upd (k.fam T SE E N d) (.o d) (Own.pre E (k.out d) (k.len d) (k.xs d) x n zs)) (.c (N + d)) (Own.row E 1 y n zs)) .outs (Own.row SE 1 ov (N + d + 1) ((List.range (N + d)).map k.out ++ [x]))) .box b0) .wants (Own.row SE 1 wv (N + d + 1) ((List.range (N + d)).map k.want ++ [y]))) .box (Own.blk k.g #[ov, wv] T) i = (k.add (N + d) ov wv x y n zs).fam T SE E N (d + 1) i := by
  intro i
  cases i with
  | box => rfl
  | outs =>
    show Own.row SE 1 ov (N + d + 1) _ = Own.row SE 1 ov (N + d + 1) ((List.range (N + d + 1)).map (fun i => if i = N + d then x else k.out i))
    rw [range_add]
  | wants =>
    show Own.row SE 1 wv (N + d + 1) _ = Own.row SE 1 wv (N + d + 1) ((List.range (N + d + 1)).map (fun i => if i = N + d then y else k.want i))
    rw [range_add]
  | o i =>
    by_cases h : i = d
    · subst h
      simp [upd, KS.fam, KS.add, show ¬ N = 0 by omega]
    · simp only [upd, KS.fam, KS.add, reduceCtorEq, if_false, KI.o.injEq, if_neg h]
      by_cases h2 : i < d
      · rw [if_pos h2, if_pos (show i < d + 1 by omega), if_neg (show ¬ i = N + d by omega), if_neg (show ¬ i = N + d by omega), if_neg (show ¬ i = N + d by omega), if_neg (show ¬ N + i = N + d by omega), if_neg (show ¬ N + i = N + d by omega), if_neg (show ¬ N + i = N + d by omega)]
      · rw [if_neg h2, if_neg (show ¬ i < d + 1 by omega)]
        by_cases h3 : i < N
        · rw [if_pos h3, if_pos h3, if_neg (show ¬ i = N + d by omega), if_neg (show ¬ i = N + d by omega), if_neg (show ¬ i = N + d by omega)]
        · rw [if_neg h3, if_neg h3]
  | c i =>
    by_cases h : i = N + d
    · subst h
      simp [upd, KS.fam, KS.add]
    · simp only [upd, KS.fam, KS.add, reduceCtorEq, if_false, KI.c.injEq, if_neg h]
      by_cases h2 : i < N + d
      · rw [if_pos h2, if_pos (show i < N + (d + 1) by omega)]
      · rw [if_neg h2, if_neg (show ¬ i < N + (d + 1) by omega)]
def KS.wx (k : KS) (f : Nat → List Value) : KS := ⟨k.g, k.ov, k.wv, k.out, k.want, k.len, f⟩
theorem KS.wx_self (k : KS) : k.wx k.xs = k := rfl
/-- The two places where the i-th thing lies, none of them beside the other or the box. -/
theorem KS.apart {k : KS} {T SE E : TypeId} {N : Nat} {w : World} (h : (k.own T SE E N 0).holds w) {i : Nat} (hi : i < N) (hl : 0 < k.len i) :
    ∃ bo co bw cw, k.out i = .slice (some ⟨bo, 0, none⟩) (k.len i) co ∧ k.want i = .slice (some ⟨bw, 0, none⟩) (k.len i) cw ∧ w.ownsRow 0 E 1 (.slice (some ⟨bo, 0, none⟩) (k.len i) co) (k.len i) (k.xs i) ∧ w.ownsRow 0 E 1 (.slice (some ⟨bw, 0, none⟩) (k.len i) cw) (k.len i) (k.xs i) ∧
      bo ≠ k.g ∧ bw ≠ k.g ∧ bo ≠ bw ∧ (∀ g n c, k.wv = .slice (some ⟨g, 0, none⟩) n c → bo ≠ g) ∧ (∀ g n c, k.ov = .slice (some ⟨g, 0, none⟩) n c → bo ≠ g) := by
  have h1 := h.1 (.o i)
  simp only [KS.fam, if_neg (Nat.not_lt_zero i), if_pos hi] at h1
  have h2 := h.1 (.c i)
  simp only [KS.fam, Nat.add_zero, if_pos hi] at h2
  obtain ⟨bo, co, e1, _, _⟩ := row_form (show w.ownsRow 0 E 1 (k.out i) (k.len i) (k.xs i) from h1) hl
  obtain ⟨bw, cw, e2, _, _⟩ := row_form (show w.ownsRow 0 E 1 (k.want i) (k.len i) (k.xs i) from h2) hl
  have f1 : (k.fam T SE E N 0 (.o i)).foot bo := by
    simp only [KS.fam, if_neg (Nat.not_lt_zero i), if_pos hi]
    show (k.out i).ownBlock = some bo
    rw [e1]; rfl
  have f2 : (k.fam T SE E N 0 (.c i)).foot bw := by
    simp only [KS.fam, Nat.add_zero, if_pos hi]
    show (k.want i).ownBlock = some bw
    rw [e2]; rfl
  refine ⟨bo, co, bw, cw, e1, e2, by rw [← e1]; exact h1, by rw [← e2]; exact h2, ?_, ?_, ?_, ?_, ?_⟩
  · intro e; have := h.2 (.o i) .box bo f1 e; cases this
  · intro e; have := h.2 (.c i) .box bw f2 e; cases this
  · intro e; have := h.2 (.o i) (.c i) bo f1 (e ▸ f2); cases this
  · intro g n c hv e
    have := h.2 (.o i) .wants bo f1 (by show k.wv.ownBlock = some bo; rw [hv, e]; rfl)
    cases this
  · intro g n c hv e
    have := h.2 (.o i) .outs bo f1 (by show k.ov.ownBlock = some bo; rw [hv, e]; rfl)
    cases this
/-- A mark, in both. -/
theorem KS.mark {k : KS} {T SE E : TypeId} {N : Nat} {w : World} (h : (k.own T SE E N 0).holds w) {i : Nat} (hi : i < N) {bo co bw cw : Nat} (e1 : k.out i = .slice (some ⟨bo, 0, none⟩) (k.len i) co) (e2 : k.want i = .slice (some ⟨bw, 0, none⟩) (k.len i) cw) (j : Nat) (v : Value) :
    Turns w ((w.setCell ⟨bo, j, none⟩ v).setCell ⟨bw, j, none⟩ v) (k.own T SE E N 0) ((k.put i ((k.xs i).set j v)).own T SE E N 0) := by
  have h1 := h.1 (.o i)
  simp only [KS.fam, if_neg (Nat.not_lt_zero i), if_pos hi] at h1
  rw [e1] at h1
  have t1 := Turns.famE h (.o i) (O := Own.row E 1 (k.out i) (k.len i) (k.xs i)) (by simp only [KS.fam, if_neg (Nat.not_lt_zero i), if_pos hi]) (by rw [e1]; exact Turns.row_set h1 j v)
  have h2 : (Own.row E 1 (k.want i) (k.len i) (k.xs i)).holds (w.setCell ⟨bo, j, none⟩ v) := by
    have := t1.now.1 (.c i)
    simpa only [upd, reduceCtorEq, if_false, KS.fam, Nat.add_zero, if_pos hi] using this
  rw [e2] at h2
  have t2 := Turns.famE t1.now (.c i) (O := Own.row E 1 (k.want i) (k.len i) (k.xs i)) (by simp only [upd, reduceCtorEq, if_false, KS.fam, Nat.add_zero, if_pos hi]) (by rw [e2]; exact Turns.row_set h2 j v)
  refine (t1.trans t2).to ?_
  rw [← e1, ← e2]
  exact Own.fam_as (KS.marked k T SE E N i hi _)
theorem Own.fam_both {ι : Type} {F : ι → Own} {w : World} (h : (Own.fam F).holds w) {i j : ι} (hij : i ≠ j) {A B : Own} (hi : F i = A) (hj : F j = B) : (Own.both A B).holds w := by
  subst hi; subst hj
  exact ⟨h.1 i, h.1 j, fun b h1 h2 => hij (h.2 i j b h1 h2)⟩
/-- Two things become one. -/
theorem Turns.fam2 {ι : Type} [DecidableEq ι] {F : ι → Own} {w w' : World} (h : (Own.fam F).holds w) {i j : ι} (hij : i ≠ j) {A B O' : Own} (hi : F i = A) (hj : F j = B) (ht : Turns w w' (Own.both A B) O') :
    Turns w w' (Own.fam F) (Own.fam (upd (upd F i O') j Own.emp)) := by
  subst hi; subst hj
  have key : ∀ k b, k ≠ i → k ≠ j → (F k).foot b → O'.foot b → False := fun k b h1 h2 hf ho => by
    rcases ht.near b ho with hf' | hge
    · rcases hf' with h3 | h3
      · exact h1 (h.2 k i b hf h3)
      · exact h2 (h.2 k j b hf h3)
    · have := (F k).lt (h.1 k) b hf
      omega
  refine ⟨ht.chg.mono fun k _ hf => hf.elim (fun h1 => ⟨i, h1⟩) (fun h1 => ⟨j, h1⟩), ⟨fun k => ?_, fun k l b hk hl => ?_⟩, fun b hb => ?_⟩
  · unfold upd
    split
    · trivial
    · split
      · exact ht.now
      · rename_i h1 h2
        exact Own.chg (h.1 k) ht.chg (fun b hb hf => hf.elim (fun h3 => h2 (h.2 k i b hb h3)) (fun h3 => h1 (h.2 k j b hb h3)))
  · unfold upd at hk hl
    split at hk
    · exact hk.elim
    · split at hl
      · exact hl.elim
      · rename_i k1 l1
        split at hk <;> split at hl
        · rename_i k2 l2; rw [k2, l2]
        · rename_i k2 l2; exact (key l b l2 l1 hl hk).elim
        · rename_i k2 l2; exact (key k b k2 k1 hk hl).elim
        · exact h.2 k l b hk hl
  · obtain ⟨k, hk⟩ := hb
    unfold upd at hk
    split at hk
    · exact hk.elim
    · split at hk
      · rcases ht.near b hk with hf | hge
        · exact Or.inl (hf.elim (fun h1 => ⟨i, h1⟩) (fun h1 => ⟨j, h1⟩))
        · exact Or.inr hge
      · exact Or.inl ⟨k, hk⟩
def KS.empty (g : Nat) : KS := ⟨g, .slice none 0 0, .slice none 0 0, fun _ => .slice none 0 0, fun _ => .slice none 0 0, fun _ => 0, fun _ => []⟩
theorem KS.new {w w' : World} {g : Nat} (T SE E : TypeId) (h : Turns w w' Own.emp (Own.blk g #[.slice none 0 0, .slice none 0 0] T)) : Turns w w' Own.emp ((KS.empty g).own T SE E 0 0) := by
  have ho : ∀ i, (KS.empty g).fam T SE E 0 0 i = (match i with | .box => Own.blk g #[.slice none 0 0, .slice none 0 0] T | .outs => Own.row SE 1 (.slice none 0 0) 0 [] | .wants => Own.row SE 1 (.slice none 0 0) 0 [] | .o _ => Own.emp | .c _ => Own.emp) := fun i => by
    cases i with
    | box => rfl
    | outs => rfl
    | wants => rfl
    | o i => simp [KS.fam]
    | c i => simp [KS.fam]
  have e : (KS.empty g).own T SE E 0 0 = Own.fam (fun i : KI => match i with | .box => Own.blk g #[.slice none 0 0, .slice none 0 0] T | .outs => Own.row SE 1 (.slice none 0 0) 0 [] | .wants => Own.row SE 1 (.slice none 0 0) 0 [] | .o _ => Own.emp | .c _ => Own.emp) := Own.fam_as ho
  rw [e]
  refine ⟨h.chg, ⟨fun i => ?_, fun i j b hi hj => ?_⟩, fun b hb => ?_⟩
  · cases i with
    | box => exact h.now
    | outs => exact World.ownsRow_nil _ _ _ _
    | wants => exact World.ownsRow_nil _ _ _ _
    | o i => trivial
    | c i => trivial
  · cases i <;> cases j <;> first | rfl | (cases hi; done) | (cases hj; done) | exact (hi : False).elim | exact (hj : False).elim
  · obtain ⟨i, hi⟩ := hb
    cases i with
    | box => exact h.near b hi
    | outs => cases hi
    | wants => cases hi
    | o i => exact hi.elim
    | c i => exact hi.elim
end Go.Hp
