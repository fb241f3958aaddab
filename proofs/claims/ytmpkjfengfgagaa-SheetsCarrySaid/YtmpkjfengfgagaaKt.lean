/- Lists that were handed out, each kept with what it must read as; some are fresh (their owner may write them), the others stand. Plain lemmas on worlds. -/
import Derived.Test.YtmpkjfengfgagaaNt
namespace Go.Hp
open Go.RowKit
set_option linter.unusedSimpArgs false
set_option linter.unusedVariables false
abbrev Srcs := List (Value × Nat × List Value)
/-- Slices that can be read. -/
def Own.srcs (S : Srcs) : Own :=
  ⟨fun b => ∃ s ∈ S, s.1.ownBlock = some b, fun w => ∀ s ∈ S, Src w s.1 s.2.1 1 s.2.2 ∧ ∀ b, s.1.ownBlock = some b → b < w.heap.size,
    fun h hb s hs => ⟨Src.stay (h s hs).1 fun b hf => hb b ⟨s, hs, hf⟩, fun b hf => lt_of_heap ((h s hs).2 b hf) (hb b ⟨s, hs, hf⟩)⟩,
    fun h b hb => by obtain ⟨s, hs, hf⟩ := hb; exact (h s hs).2 b hf⟩
theorem Turns.srcs_add {w : World} {S T : Srcs} {A : Own} (h : (Own.both (Own.srcs S) A).holds w) (hT : (Own.srcs T).holds w) (hf : ∀ b, (Own.srcs T).foot b → A.foot b) : Turns w w (Own.both (Own.srcs S) A) (Own.srcs (S ++ T)) :=
  ⟨Chg.refl _ _, fun s hs => (List.mem_append.1 hs).elim (h.1 s) (hT s), fun b hb => by
    obtain ⟨s, hs, hb⟩ := hb
    exact (List.mem_append.1 hs).elim (fun h1 => Or.inl (Or.inl ⟨s, h1, hb⟩)) (fun h1 => Or.inl (Or.inr (hf b ⟨s, h1, hb⟩)))⟩
theorem Own.srcs_row {w : World} {E : TypeId} {v : Value} {n : Nat} {xs : List Value} (h : (Own.row E 1 v n xs).holds w) : (Own.srcs [(v, n, xs)]).holds w := fun s hs => by
  simp only [List.mem_singleton] at hs
  subst hs
  exact ⟨Src.of_own h, fun b hb => Own.lt _ h b hb⟩
theorem Own.srcs_pre {w : World} {E : TypeId} {v0 v : Value} {n0 n : Nat} {xs0 xs : List Value} (h : (Own.pre E v0 n0 xs0 v n xs).holds w) : (Own.srcs [(v0, n0, xs0), (v, n, xs)]).holds w := fun s hs => by
  simp only [List.mem_cons, List.mem_nil_iff, or_false] at hs
  rcases hs with rfl | rfl
  · exact ⟨Own.pre_old h, fun b hb => Own.lt _ h b (Or.inl hb)⟩
  · exact ⟨Src.of_own (Own.pre_row h), fun b hb => Own.lt _ h b (Or.inr hb)⟩
inductive TI where
  | outs | wants | old | x | z | o (i : Nat) | c (i : Nat)
deriving DecidableEq
structure KT where
  ov : Value
  wv : Value
  M : Nat
  out : Nat → Value
  want : Nat → Value
  len : Nat → Nat
  xs : Nat → List Value
  fr : Nat → Bool
  S : Srcs
def KT.fam (k : KT) (SE E : TypeId) : TI → Own
  | .outs => Own.row SE 1 k.ov k.M ((List.range k.M).map k.out)
  | .wants => Own.row SE 1 k.wv k.M ((List.range k.M).map k.want)
  | .old => Own.srcs k.S
  | .x => Own.emp
  | .z => Own.emp
  | .o i => if k.fr i = true then Own.row E 1 (k.out i) (k.len i) (k.xs i) else Own.emp
  | .c i => if k.fr i = true then Own.row E 1 (k.want i) (k.len i) (k.xs i) else Own.emp
def KT.own (k : KT) (SE E : TypeId) : Own := Own.fam (k.fam SE E)
/-- Those from lo on are fresh, up to hi; the others stand. -/
structure KT.Wf (k : KT) (lo hi : Nat) : Prop where
  hib : hi ≤ k.M
  lob : lo ≤ hi
  fr : ∀ i, k.fr i = decide (lo ≤ i ∧ i < hi)
  old : ∀ i, i < k.M → k.fr i = false → (k.out i, k.len i, k.xs i) ∈ k.S ∧ (k.want i, k.len i, k.xs i) ∈ k.S
variable {k : KT} {SE E : TypeId} {lo hi : Nat} {w : World}
theorem KT.Wf.no (h : k.Wf lo hi) {i : Nat} (hi : k.M ≤ i) : k.fr i = false := by
  rw [h.fr, decide_eq_false_iff_not]
  have := h.hib
  omega
theorem KT.reads (h : (k.own SE E).holds w) (hw : k.Wf lo hi) {i : Nat} (hi : i < k.M) : Src w (k.out i) (k.len i) 1 (k.xs i) ∧ Src w (k.want i) (k.len i) 1 (k.xs i) := by
  cases hf : k.fr i with
  | true =>
    have h1 := h.1 (.o i)
    have h2 := h.1 (.c i)
    simp only [KT.fam, if_pos hf] at h1 h2
    exact ⟨Src.of_own (show w.ownsRow 0 E 1 (k.out i) (k.len i) (k.xs i) from h1), Src.of_own (show w.ownsRow 0 E 1 (k.want i) (k.len i) (k.xs i) from h2)⟩
  | false =>
    obtain ⟨h1, h2⟩ := hw.old i hi hf
    exact ⟨(h.1 .old _ h1).1, (h.1 .old _ h2).1⟩
theorem KT.outs (h : (k.own SE E).holds w) : w.ownsRow 0 SE 1 k.ov k.M ((List.range k.M).map k.out) := h.1 .outs
theorem KT.wants (h : (k.own SE E).holds w) : w.ownsRow 0 SE 1 k.wv k.M ((List.range k.M).map k.want) := h.1 .wants
/-- The place of the i-th slice, and what lies there. -/
theorem KT.at_ (h : (k.own SE E).holds w) {i : Nat} (hi : i < k.M) : ∃ go co gw cw, k.ov = .slice (some ⟨go, 0, none⟩) k.M co ∧ k.wv = .slice (some ⟨gw, 0, none⟩) k.M cw ∧
    w.cell? ⟨go, i, none⟩ = some (k.out i) ∧ w.cell? ⟨gw, i, none⟩ = some (k.want i) := by
  have h1 := KT.outs h
  have h2 := KT.wants h
  obtain ⟨go, co, e1, _, _⟩ := row_form h1 (by omega)
  obtain ⟨gw, cw, e2, _, _⟩ := row_form h2 (by omega)
  rw [e1] at h1
  rw [e2] at h2
  exact ⟨go, co, gw, cw, e1, e2, (row_at h1 i (range_at _ hi)).1, (row_at h2 i (range_at _ hi)).1⟩
/-- One more, fresh. -/
def KT.add (k : KT) (ov wv x y : Value) (n : Nat) (zs : List Value) : KT :=
  ⟨ov, wv, k.M + 1, fun i => if i = k.M then x else k.out i, fun i => if i = k.M then y else k.want i, fun i => if i = k.M then n else k.len i, fun i => if i = k.M then zs else k.xs i, fun i => if i = k.M then true else k.fr i, k.S⟩
theorem KT.kept (k : KT) (SE E : TypeId) (ov wv x y : Value) (n : Nat) (zs : List Value) :
    ∀ i, upd (upd (upd (upd (k.fam SE E) (.o k.M) (Own.row E 1 x n zs)) .outs (Own.row SE 1 ov (k.M + 1) ((List.range k.M).map k.out ++ [x]))) (.c k.M) (Own.row E 1 y n zs)) .wants (Own.row SE 1 wv (k.M + 1) ((List.range k.M).map k.want ++ [y])) i = (k.add ov wv x y n zs).fam SE E i := by
  intro i
  cases i with
  | outs =>
    show Own.row SE 1 ov (k.M + 1) _ = Own.row SE 1 ov (k.M + 1) ((List.range (k.M + 1)).map (fun i => if i = k.M then x else k.out i))
    rw [range_add]
  | wants =>
    show Own.row SE 1 wv (k.M + 1) _ = Own.row SE 1 wv (k.M + 1) ((List.range (k.M + 1)).map (fun i => if i = k.M then y else k.want i))
    rw [range_add]
  | old => rfl
  | x => rfl
  | z => rfl
  | o i =>
    by_cases h : i = k.M
    · subst h; simp [upd, KT.fam, KT.add]
    · simp [upd, KT.fam, KT.add, h]
  | c i =>
    by_cases h : i = k.M
    · subst h; simp [upd, KT.fam, KT.add]
    · simp [upd, KT.fam, KT.add, h]
theorem KT.Wf.add (h : k.Wf lo k.M) (ov wv x y : Value) (n : Nat) (zs : List Value) : (k.add ov wv x y n zs).Wf lo (k.M + 1) := by
  refine ⟨Nat.le_refl _, Nat.le_succ_of_le h.lob, fun i => ?_, fun i hi hf => ?_⟩
  · show (if i = k.M then true else k.fr i) = _
    by_cases e : i = k.M
    · rw [if_pos e, eq_comm, decide_eq_true_eq]
      have := h.lob
      omega
    · rw [if_neg e, h.fr, decide_eq_decide]
      omega
  · have e : i ≠ k.M := fun e => by subst e; simp [KT.add] at hf
    have hi : i < k.M + 1 := hi
    have hf : (if i = k.M then true else k.fr i) = false := hf
    rw [if_neg e] at hf
    have := h.old i (by omega) hf
    show (((if i = k.M then x else k.out i), (if i = k.M then n else k.len i), (if i = k.M then zs else k.xs i)) ∈ k.S) ∧ (((if i = k.M then y else k.want i), (if i = k.M then n else k.len i), (if i = k.M then zs else k.xs i)) ∈ k.S)
    rw [if_neg e, if_neg e, if_neg e, if_neg e]
    exact this
/-- One has turned, in both. -/
def KT.put (k : KT) (i : Nat) (zs : List Value) : KT := { k with xs := fun j => if j = i then zs else k.xs j }
theorem KT.Wf.put (h : k.Wf lo hi) {i : Nat} (hi' : k.fr i = true) (zs : List Value) : (k.put i zs).Wf lo hi := by
  refine ⟨h.hib, h.lob, h.fr, fun j hj hf => ?_⟩
  have hf : k.fr j = false := hf
  have e : j ≠ i := fun e => by subst e; exact absurd (hi'.symm.trans hf) (by simp)
  show ((k.out j, k.len j, (if j = i then zs else k.xs j)) ∈ k.S) ∧ ((k.want j, k.len j, (if j = i then zs else k.xs j)) ∈ k.S)
  rw [if_neg e]
  exact h.old j hj hf
theorem KT.marked (k : KT) (SE E : TypeId) (i : Nat) (hi : k.fr i = true) (zs : List Value) :
    ∀ j, upd (upd (k.fam SE E) (.o i) (Own.row E 1 (k.out i) (k.len i) zs)) (.c i) (Own.row E 1 (k.want i) (k.len i) zs) j = (k.put i zs).fam SE E j := by
  intro j
  cases j with
  | outs => rfl
  | wants => rfl
  | old => rfl
  | x => rfl
  | z => rfl
  | o j =>
    by_cases h : j = i
    · subst h; simp [upd, KT.fam, KT.put, hi]
    · simp [upd, KT.fam, KT.put, h]
  | c j =>
    by_cases h : j = i
    · subst h; simp [upd, KT.fam, KT.put, hi]
    · simp [upd, KT.fam, KT.put, h]
/-- The two places where a fresh one lies, neither beside the other nor beside the rows. -/
theorem KT.apart (h : (k.own SE E).holds w) {i : Nat} (hi : k.fr i = true) (hl : 0 < k.len i) :
    ∃ bo co bw cw, k.out i = .slice (some ⟨bo, 0, none⟩) (k.len i) co ∧ k.want i = .slice (some ⟨bw, 0, none⟩) (k.len i) cw ∧ w.ownsRow 0 E 1 (.slice (some ⟨bo, 0, none⟩) (k.len i) co) (k.len i) (k.xs i) ∧ w.ownsRow 0 E 1 (.slice (some ⟨bw, 0, none⟩) (k.len i) cw) (k.len i) (k.xs i) ∧
      (k.own SE E).foot bo ∧ (k.own SE E).foot bw ∧ bo ≠ bw ∧ (∀ g n c, k.wv = .slice (some ⟨g, 0, none⟩) n c → bo ≠ g ∧ bw ≠ g) ∧ (∀ g n c, k.ov = .slice (some ⟨g, 0, none⟩) n c → bo ≠ g ∧ bw ≠ g) := by
  have h1 := h.1 (.o i)
  have h2 := h.1 (.c i)
  simp only [KT.fam, if_pos hi] at h1 h2
  obtain ⟨bo, co, e1, _, _⟩ := row_form (show w.ownsRow 0 E 1 (k.out i) (k.len i) (k.xs i) from h1) hl
  obtain ⟨bw, cw, e2, _, _⟩ := row_form (show w.ownsRow 0 E 1 (k.want i) (k.len i) (k.xs i) from h2) hl
  have f1 : (k.fam SE E (.o i)).foot bo := by
    simp only [KT.fam, if_pos hi]
    show (k.out i).ownBlock = some bo
    rw [e1]; rfl
  have f2 : (k.fam SE E (.c i)).foot bw := by
    simp only [KT.fam, if_pos hi]
    show (k.want i).ownBlock = some bw
    rw [e2]; rfl
  refine ⟨bo, co, bw, cw, e1, e2, by rw [← e1]; exact h1, by rw [← e2]; exact h2, ⟨_, f1⟩, ⟨_, f2⟩, ?_, ?_, ?_⟩
  · intro e; have := h.2 (.o i) (.c i) bo f1 (e ▸ f2); cases this
  · intro g n c hv
    refine ⟨fun e => ?_, fun e => ?_⟩
    · have := h.2 (.o i) .wants bo f1 (by show k.wv.ownBlock = some bo; rw [hv, e]; rfl)
      cases this
    · have := h.2 (.c i) .wants bw f2 (by show k.wv.ownBlock = some bw; rw [hv, e]; rfl)
      cases this
  · intro g n c hv
    refine ⟨fun e => ?_, fun e => ?_⟩
    · have := h.2 (.o i) .outs bo f1 (by show k.ov.ownBlock = some bo; rw [hv, e]; rfl)
      cases this
    · have := h.2 (.c i) .outs bw f2 (by show k.ov.ownBlock = some bw; rw [hv, e]; rfl)
      cases this
/-- A mark, in both. -/
theorem KT.mark (h : (k.own SE E).holds w) {i : Nat} (hi : k.fr i = true) {bo co bw cw : Nat} (e1 : k.out i = .slice (some ⟨bo, 0, none⟩) (k.len i) co) (e2 : k.want i = .slice (some ⟨bw, 0, none⟩) (k.len i) cw) (j : Nat) (v : Value) :
    ∃ O1, Turns w (w.setCell ⟨bo, j, none⟩ v) (k.own SE E) O1 ∧ ∀ W, Chg (fun _ => False) (w.setCell ⟨bo, j, none⟩ v) W → Turns (w.setCell ⟨bo, j, none⟩ v) (W.setCell ⟨bw, j, none⟩ v) O1 ((k.put i ((k.xs i).set j v)).own SE E) := by
  have h1 := h.1 (.o i)
  simp only [KT.fam, if_pos hi] at h1
  rw [e1] at h1
  have t1 := Turns.famE h (.o i) (O := Own.row E 1 (k.out i) (k.len i) (k.xs i)) (by simp only [KT.fam, if_pos hi]) (by rw [e1]; exact Turns.row_set h1 j v)
  refine ⟨_, t1, fun W hc => ?_⟩
  have t1' := Turns.refl (Own.fam_chg t1.now hc)
  have h2 : (Own.row E 1 (k.want i) (k.len i) (k.xs i)).holds W := by
    have := t1'.now.1 (.c i)
    simpa only [upd, reduceCtorEq, if_false, KT.fam, if_pos hi] using this
  rw [e2] at h2
  have t2 := Turns.famE t1'.now (.c i) (O := Own.row E 1 (k.want i) (k.len i) (k.xs i)) (by simp only [upd, reduceCtorEq, if_false, KT.fam, if_pos hi]) (by rw [e2]; exact Turns.row_set h2 j v)
  have t3 := (Turns.of_kept t1.now hc).trans t2
  refine t3.to ?_
  rw [← e1, ← e2]
  exact Own.fam_as (KT.marked k SE E i hi _)
/-- One has grown: it and what grew out of it stand now, with what they must read as. -/
def KT.grow (k : KT) (i : Nat) (ov wv x y : Value) (n : Nat) (zs : List Value) : KT :=
  ⟨ov, wv, k.M + 1, fun j => if j = k.M then x else k.out j, fun j => if j = k.M then y else k.want j, fun j => if j = k.M then n else k.len j, fun j => if j = k.M then zs else k.xs j, fun j => if j = i then false else k.fr j,
    k.S ++ [(k.out i, k.len i, k.xs i), (x, n, zs)] ++ [(y, n, zs)] ++ [(k.want i, k.len i, k.xs i)]⟩
theorem KT.Wf.grow (h : k.Wf lo hi) (hl : lo < hi) (ov wv x y : Value) (n : Nat) (zs : List Value) : (k.grow lo ov wv x y n zs).Wf (lo + 1) hi := by
  refine ⟨Nat.le_succ_of_le h.hib, hl, fun j => ?_, fun j hj hf => ?_⟩
  · show (if j = lo then false else k.fr j) = _
    by_cases e : j = lo
    · rw [if_pos e, eq_comm, decide_eq_false_iff_not]
      omega
    · rw [if_neg e, h.fr, decide_eq_decide]
      omega
  · have hj : j < k.M + 1 := hj
    have hf : (if j = lo then false else k.fr j) = false := hf
    show (((if j = k.M then x else k.out j), (if j = k.M then n else k.len j), (if j = k.M then zs else k.xs j)) ∈ k.S ++ [(k.out lo, k.len lo, k.xs lo), (x, n, zs)] ++ [(y, n, zs)] ++ [(k.want lo, k.len lo, k.xs lo)]) ∧
      (((if j = k.M then y else k.want j), (if j = k.M then n else k.len j), (if j = k.M then zs else k.xs j)) ∈ k.S ++ [(k.out lo, k.len lo, k.xs lo), (x, n, zs)] ++ [(y, n, zs)] ++ [(k.want lo, k.len lo, k.xs lo)])
    by_cases e : j = k.M
    · rw [if_pos e, if_pos e, if_pos e, if_pos e]
      exact ⟨by simp, by simp⟩
    · rw [if_neg e, if_neg e, if_neg e, if_neg e]
      by_cases e2 : j = lo
      · subst e2
        exact ⟨by simp, by simp⟩
      · rw [if_neg e2] at hf
        obtain ⟨h1, h2⟩ := h.old j (by omega) hf
        exact ⟨by simp [h1], by simp [h2]⟩
theorem KT.settle (k : KT) {w : World} {SE E : TypeId} {i : Nat} {ov wv x y : Value} {n : Nat} {zs : List Value} {F : TI → Own} (hi : k.fr i = true) (hM : k.fr k.M = false) (h : (Own.fam F).holds w)
    (fold : F .old = Own.srcs k.S) (fx : F .x = Own.pre E (k.out i) (k.len i) (k.xs i) x n zs) (fz : F .z = Own.row E 1 y n zs) (fo : ∀ j, F (.o j) = if j = i then Own.emp else k.fam SE E (.o j)) (fc : ∀ j, F (.c j) = k.fam SE E (.c j))
    (fouts : F .outs = Own.row SE 1 ov (k.M + 1) ((List.range k.M).map k.out ++ [x])) (fwants : F .wants = Own.row SE 1 wv (k.M + 1) ((List.range k.M).map k.want ++ [y])) :
    Turns w w (Own.fam F) ((k.grow i ov wv x y n zs).own SE E) := by
  have fci : F (.c i) = Own.row E 1 (k.want i) (k.len i) (k.xs i) := by rw [fc]; simp [KT.fam, hi]
  have hx := h.1 .x
  rw [fx] at hx
  have hz := h.1 .z
  rw [fz] at hz
  have hc := h.1 (.c i)
  rw [fci] at hc
  have t1 := Turns.fam2 h (i := .old) (j := .x) (by simp) fold fx
    (Turns.srcs_add (Own.fam_both h (i := .old) (j := .x) (by simp) fold fx) (Own.srcs_pre hx) (fun b hb => by
      obtain ⟨s, hs, hb⟩ := hb
      simp only [List.mem_cons, List.mem_nil_iff, or_false] at hs
      rcases hs with rfl | rfl
      · exact Or.inl hb
      · exact Or.inr hb))
  have e2 : upd (upd F .old (Own.srcs (k.S ++ [(k.out i, k.len i, k.xs i), (x, n, zs)]))) .x Own.emp .z = Own.row E 1 y n zs := by simp [upd, fz]
  have t2 := Turns.fam2 t1.now (i := .old) (j := .z) (by simp) (A := Own.srcs (k.S ++ [(k.out i, k.len i, k.xs i), (x, n, zs)])) (B := Own.row E 1 y n zs) (by simp [upd]) e2
    (Turns.srcs_add (Own.fam_both t1.now (i := .old) (j := .z) (by simp) (by simp [upd]) e2) (Own.srcs_row hz) (fun b hb => by
      obtain ⟨s, hs, hb⟩ := hb
      simp only [List.mem_singleton] at hs
      subst hs
      exact hb))
  have e3 : upd (upd (upd (upd F .old (Own.srcs (k.S ++ [(k.out i, k.len i, k.xs i), (x, n, zs)]))) .x Own.emp) .old (Own.srcs (k.S ++ [(k.out i, k.len i, k.xs i), (x, n, zs)] ++ [(y, n, zs)]))) .z Own.emp (.c i) = Own.row E 1 (k.want i) (k.len i) (k.xs i) := by simp [upd, fci]
  have t3 := Turns.fam2 t2.now (i := .old) (j := .c i) (by simp) (A := Own.srcs (k.S ++ [(k.out i, k.len i, k.xs i), (x, n, zs)] ++ [(y, n, zs)])) (B := Own.row E 1 (k.want i) (k.len i) (k.xs i)) (by simp [upd]) e3
    (Turns.srcs_add (Own.fam_both t2.now (i := .old) (j := .c i) (by simp) (by simp [upd]) e3) (Own.srcs_row hc) (fun b hb => by
      obtain ⟨s, hs, hb⟩ := hb
      simp only [List.mem_singleton] at hs
      subst hs
      exact hb))
  refine (t1.trans (t2.trans t3)).to ?_
  refine Own.fam_as fun j => ?_
  cases j with
  | outs =>
    show F .outs = Own.row SE 1 ov (k.M + 1) ((List.range (k.M + 1)).map (fun i => if i = k.M then x else k.out i))
    rw [range_add, fouts]
  | wants =>
    show F .wants = Own.row SE 1 wv (k.M + 1) ((List.range (k.M + 1)).map (fun i => if i = k.M then y else k.want i))
    rw [range_add, fwants]
  | old => simp [upd, KT.fam, KT.grow]
  | x => simp [upd, KT.fam, KT.grow]
  | z => simp [upd, KT.fam, KT.grow]
  | o j =>
    by_cases e : j = i
    · subst e; simp [upd, KT.fam, KT.grow, fo]
    · by_cases e2 : j = k.M
      · subst e2; simp [upd, KT.fam, KT.grow, e, hM, fo]
      · simp [upd, KT.fam, KT.grow, e, e2, fo]
  | c j =>
    by_cases e : j = i
    · subst e; simp [upd, KT.fam, KT.grow]
    · by_cases e2 : j = k.M
      · subst e2; simp [upd, KT.fam, KT.grow, e, hM, fc]
      · simp [upd, KT.fam, KT.grow, e, e2, fc]
/-- A fresh one is taken out, to grow. -/
theorem KT.take (k : KT) {w : World} {SE E : TypeId} {i : Nat} (hi : k.fr i = true) (h : (k.own SE E).holds w) : Turns w w (k.own SE E) (Own.fam (upd (upd (k.fam SE E) .x (Own.pre E (k.out i) (k.len i) (k.xs i) (k.out i) (k.len i) (k.xs i))) (.o i) Own.emp)) := by
  have e : k.fam SE E (.o i) = Own.row E 1 (k.out i) (k.len i) (k.xs i) := by simp [KT.fam, hi]
  have hb := Own.fam_both h (i := .x) (j := .o i) (by simp) (A := Own.emp) rfl e
  exact Turns.fam2 h (i := .x) (j := .o i) (by simp) (A := Own.emp) rfl e ((Turns.dropL (Turns.refl hb)).trans (Turns.pre_start hb.2.1))
def KT.wx (k : KT) (f : Nat → List Value) : KT := { k with xs := f }
theorem KT.markO (k : KT) {w : World} {SE E : TypeId} (h : (k.own SE E).holds w) {i : Nat} (hi : k.fr i = true) {bo co : Nat} (e1 : k.out i = .slice (some ⟨bo, 0, none⟩) (k.len i) co) (j : Nat) (v : Value) :
    Turns w (w.setCell ⟨bo, j, none⟩ v) (k.own SE E) (Own.fam (upd (k.fam SE E) (.o i) (Own.row E 1 (k.out i) (k.len i) ((k.xs i).set j v)))) := by
  have h1 := h.1 (.o i)
  simp only [KT.fam, if_pos hi] at h1
  rw [e1] at h1
  have t1 := Turns.famE h (.o i) (O := Own.row E 1 (k.out i) (k.len i) (k.xs i)) (by simp only [KT.fam, if_pos hi]) (by rw [e1]; exact Turns.row_set h1 j v)
  rw [← e1] at t1
  exact t1
theorem KT.markC (k : KT) {w : World} {SE E : TypeId} {i j : Nat} {v : Value} (h : (Own.fam (upd (k.fam SE E) (.o i) (Own.row E 1 (k.out i) (k.len i) ((k.xs i).set j v)))).holds w) (hi : k.fr i = true) {bw cw : Nat} (e2 : k.want i = .slice (some ⟨bw, 0, none⟩) (k.len i) cw) :
    Turns w (w.setCell ⟨bw, j, none⟩ v) (Own.fam (upd (k.fam SE E) (.o i) (Own.row E 1 (k.out i) (k.len i) ((k.xs i).set j v)))) ((k.put i ((k.xs i).set j v)).own SE E) := by
  have h2 : (Own.row E 1 (k.want i) (k.len i) (k.xs i)).holds w := by
    have := h.1 (.c i)
    simpa only [upd, reduceCtorEq, if_false, KT.fam, if_pos hi] using this
  rw [e2] at h2
  have t2 := Turns.famE h (.c i) (O := Own.row E 1 (k.want i) (k.len i) (k.xs i)) (by simp only [upd, reduceCtorEq, if_false, KT.fam, if_pos hi]) (by rw [e2]; exact Turns.row_set h2 j v)
  refine t2.to ?_
  rw [← e2]
  exact Own.fam_as (KT.marked k SE E i hi _)
def KT.empty : KT := ⟨.slice none 0 0, .slice none 0 0, 0, fun _ => .slice none 0 0, fun _ => .slice none 0 0, fun _ => 0, fun _ => [], fun _ => false, []⟩
theorem KT.Wf.empty : KT.empty.Wf 0 0 := ⟨Nat.le_refl _, Nat.le_refl _, fun i => by simp [KT.empty], fun i hi => by simp [KT.empty] at hi⟩
theorem KT.start (w : World) (SE E : TypeId) : Turns w w Own.emp (KT.empty.own SE E) := by
  refine ⟨Chg.refl _ _, ⟨fun i => ?_, fun i j b hi hj => ?_⟩, fun b hb => ?_⟩
  · cases i with
    | outs => exact World.ownsRow_nil _ _ _ _
    | wants => exact World.ownsRow_nil _ _ _ _
    | old => intro s hs; cases hs
    | x => trivial
    | z => trivial
    | o i => simp [KT.fam, KT.empty, Own.emp]
    | c i => simp [KT.fam, KT.empty, Own.emp]
  · cases i with
    | outs => cases hi
    | wants => cases hi
    | old => obtain ⟨s, hs, _⟩ := hi; cases hs
    | x => exact hi.elim
    | z => exact hi.elim
    | o i => simp [KT.fam, KT.empty, Own.emp] at hi
    | c i => simp [KT.fam, KT.empty, Own.emp] at hi
  · obtain ⟨i, hi⟩ := hb
    cases i with
    | outs => cases hi
    | wants => cases hi
    | old => obtain ⟨s, hs, _⟩ := hi; cases hs
    | x => exact hi.elim
    | z => exact hi.elim
    | o i => simp [KT.fam, KT.empty, Own.emp] at hi
    | c i => simp [KT.fam, KT.empty, Own.emp] at hi
theorem Blk.five {w : World} {b : Nat} {a0 a1 a2 a3 a4 : Value} {T : TypeId} (h : Blk w b #[a0, a1, a2, a3, a4] T) :
    w.cell? ⟨b, 0, none⟩ = some a0 ∧ w.cell? ⟨b, 1, none⟩ = some a1 ∧ w.cell? ⟨b, 2, none⟩ = some a2 ∧ w.cell? ⟨b, 3, none⟩ = some a3 ∧ w.cell? ⟨b, 4, none⟩ = some a4 ∧
    w.frozen? ⟨b, 0, none⟩ = false ∧ w.frozen? ⟨b, 1, none⟩ = false ∧ w.frozen? ⟨b, 2, none⟩ = false ∧ w.frozen? ⟨b, 3, none⟩ = false ∧ w.frozen? ⟨b, 4, none⟩ = false ∧ b < w.heap.size :=
  ⟨h.cell 0, h.cell 1, h.cell 2, h.cell 3, h.cell 4, h.frozen 0, h.frozen 1, h.frozen 2, h.frozen 3, h.frozen 4, h.lt⟩
theorem Src.get {w : World} {A : Option Addr} {n c : Nat} {xs : List Value} (h : Src w (.slice A n c) n 1 xs) (i : Nat) (hi : i < n) : ∃ ad, A = some ad ∧ ∃ hx : i < xs.length, w.cell? (ad.add i) = some xs[i] := by
  have hl : i < xs.length := by have := h.1; omega
  rcases h.2 with ⟨c', h1, h0⟩ | ⟨ad, c', h1, hc⟩
  · omega
  · exact ⟨ad, (Value.slice.inj h1).1, hl, hc i _ (List.getElem?_eq_getElem hl)⟩
/-- 'append([]T(nil), l...)' as a step of a region that draws. -/
theorem step_copyN {P : Program} (w : World) {ops : Array Oper} {o : Oper} {a : Act} {K : Act → World → Prop} {Q : Exit → Act → World → Prop} {E : Prop} (hgd : o.guard = none) (x : Operand) (t : TypeId)
    (ho : o.op = .call { callee := .builtin .append, args := #[.const (.slice none 0 0), x], argTypes := #[t, t] })
    (e : TypeId) (i : TypeInfo) (z : Value) (bytes : Nat) (ht : P.underlying t = some (.slice e)) (hi : P.info? e = some i) (hz : i.zero = some z)
    (hsize : i.size = 1) (hby : i.bytes = bytes) (hzs : z.cells.size = 1)
    (v : Value) (m : Nat) (news : List Value) (hx : a.eval x = v) (hsrc : Src w v m 1 news)
    (h1 : ∀ u ∈ news, u.oneCell' = true) (h63 : m ≤ maxLen) (hbytes : m * bytes ≤ 140737488355328)
    (h : ∀ A c w', Turns w w' Own.emp (Own.row e 1 (.slice A m c) m news) → K (a.put o.dst (.slice A m c)) w') :
    if Region.wanted o (yielded ops a.tmps) = true then Oper.wp P o a w K Q else E := by
  have hw : Region.wanted o (yielded ops a.tmps) = true := by simp [Region.wanted, hgd]
  rw [if_pos hw]
  have hown : w.ownsRow 0 e 1 (.slice none 0 0) 0 [] := World.ownsRow_nil _ _ _ _
  refine wp_append_src _ (.const (.slice none 0 0)) x t ho 0 e i z 1 bytes ht hi hz hsize hby hzs (by decide) _ 0 [] rfl hown v m news hx hsrc h1 (by omega) (by simpa using hbytes) (Nat.zero_le _) ?_
  intro v' w' ho' hg' hat
  rw [Nat.zero_add, List.nil_append] at ho'
  obtain ⟨A, c, rfl⟩ := row_slice ho'
  have h0 : Turns w w Own.emp (Own.row e 1 (.slice none 0 0) 0 []) := ⟨Chg.refl _ _, hown, fun b hb => by cases hb⟩
  exact h A c w' (h0.trans (Turns.row ho' hg' hat))
/-- One element behind a slice that is full, whoever owns it: a new row. -/
theorem wpList_appG {P : Program} (w : World) {ops : Array Oper} {rest : List Oper} {o : Oper} {a : Act} {Q : Exit → Act → World → Prop} (hgd : o.guard = none) (s x : Operand) (t : TypeId)
    (ho : o.op = .call { callee := .builtin .append, args := #[s, x], argTypes := #[t, t] })
    (e : TypeId) (i : TypeInfo) (z : Value) (bytes : Nat) (ht : P.underlying t = some (.slice e)) (hi : P.info? e = some i) (hz : i.zero = some z)
    (hsize : i.size = 1) (hby : i.bytes = bytes) (hzs : z.cells.size = 1)
    (g n : Nat) (xs : List Value) (hs : a.eval s = .slice (some ⟨g, 0, none⟩) n n) (u0 : Value) (T : TypeId) (b0 : Nat) (hx : a.eval x = .slice (some ⟨b0, 0, none⟩) 1 1) (hb0 : b0 = w.heap.size)
    (hl : xs.length = n) (hgl : g < w.heap.size) (hc : ∀ j u, xs[j]? = some u → w.cell? ⟨g, j, none⟩ = some u)
    (h63 : n + 1 ≤ maxLen) (hbytes : (n + 1) * bytes ≤ 140737488355328)
    (h : ∀ g' c w', n + 1 ≤ c → Turns w w' Own.emp (Own.row e 1 (.slice (some ⟨g', 0, none⟩) (n + 1) c) (n + 1) (xs ++ [u0])) → wpList P ops Q rest (a.put o.dst (.slice (some ⟨g', 0, none⟩) (n + 1) c)) w') :
    wpList P ops Q (o :: rest) a (w.alloc (.cells #[u0] T)) := by
  subst hb0
  refine wpList_plain hgd fun K hK => ?_
  have hadd : ∀ (b j : Nat), (⟨b, 0, none⟩ : Addr).add j = ⟨b, j, none⟩ := fun b j => by unfold Addr.add; split <;> simp_all
  have hr := run_append_grow (P := P) (w.alloc (.cells #[u0] T)) t o.type e i z ht hi hz ⟨g, 0, none⟩ n n xs (by rw [hsize, hl]; omega)
    (fun j u hu => by rw [hadd, World.cell?_of_block (w := w) (Below.heap_alloc w _ _ hgl)]; exact hc j u hu) ⟨w.heap.size, 0, none⟩ 1 1 [u0] (by simp [hsize])
    (cell_one_new w u0 T) (by omega) (by simp only [maxLen] at h63; omega) (growslice_fits (by omega) (by rw [hby]; exact hbytes))
  have hge := grownCap_ge (w.alloc (.cells #[u0] T)) (n + 1) n e
  have hcm : grownCap (w.alloc (.cells #[u0] T)) (n + 1) n e ≤ maxLen := grownCap_le_maxLen _ (n + 1) n e h63
  have hW : (w.alloc (.cells #[u0] T)).heap.size = w.heap.size + 1 := by simp
  have hown : ((w.alloc (.cells #[u0] T)).drew.alloc (.cells (xs.toArray ++ [u0].toArray ++ Builtin.zeroCells z.cells (grownCap (w.alloc (.cells #[u0] T)) (n + 1) n e - (n + 1))) e)).ownsRow 0 e 1 (.slice (some ⟨(w.alloc (.cells #[u0] T)).heap.size, 0, none⟩) (n + 1) (grownCap (w.alloc (.cells #[u0] T)) (n + 1) n e)) (n + 1) (xs ++ [u0]) := by
    refine ⟨by simp [hl], .inr ⟨_, _, _, rfl, Nat.zero_le _, heap_alloc_new (w.alloc (.cells #[u0] T)).drew _, hge, hcm, ?_, ?_⟩⟩
    · simp only [Array.size_append, List.size_toArray, size_zeroCells, hzs, List.length_cons, List.length_nil, hl]
      omega
    · simp only [Array.toList_append, List.append_assoc]
      rw [← List.append_assoc]
      exact List.take_left' (by simp [hl])
  unfold Oper.wp execOp
  simp only [ho, resolve, invoke, builtin, Sem.run_bind, Sem.run_pure, Result.andThen_ok, List.map_toArray, List.map_cons, List.map_nil, hs, hx, hr]
  refine hK _ _ (h _ _ _ hge ⟨((Chg.refl _ _).alloc _).drew.alloc _, hown, fun b hb => ?_⟩)
  have hb : some (w.alloc (.cells #[u0] T)).heap.size = some b := hb
  cases hb
  exact Or.inr (by rw [hW]; omega)
theorem KT.rowO {k : KT} {w : World} {SE E : TypeId} (h : (k.own SE E).holds w) {i : Nat} (hi : k.fr i = true) {v : Value} {n : Nat} (e : k.out i = v) (en : k.len i = n) : w.ownsRow 0 E 1 v n (k.xs i) := by
  have := h.1 (.o i)
  simp only [KT.fam, if_pos hi] at this
  rw [e, en] at this
  exact this
theorem KT.rowC {k : KT} {w : World} {SE E : TypeId} (h : (k.own SE E).holds w) {i : Nat} (hi : k.fr i = true) {v : Value} {n : Nat} (e : k.want i = v) (en : k.len i = n) : w.ownsRow 0 E 1 v n (k.xs i) := by
  have := h.1 (.c i)
  simp only [KT.fam, if_pos hi] at this
  rw [e, en] at this
  exact this
theorem rows_at {w : World} {SE : TypeId} {M g c : Nat} {v : Value} {f : Nat → Value} (h : w.ownsRow 0 SE 1 v M ((List.range M).map f)) (hv : v = .slice (some ⟨g, 0, none⟩) M c) {i : Nat} (hi : i < M) {u : Value} (e : f i = u) : w.cell? ⟨g, i, none⟩ = some u := by
  subst hv
  exact (row_at h i ((range_at _ hi).trans (congrArg some e))).1
theorem KT.outAt {k : KT} {w : World} {SE E : TypeId} (h : (k.own SE E).holds w) {g M c : Nat} (hM : k.M = M) (hv : k.ov = .slice (some ⟨g, 0, none⟩) M c) {i : Nat} (hi : i < M) {u : Value} (e : k.out i = u) : w.cell? ⟨g, i, none⟩ = some u := by
  subst hM
  exact rows_at (KT.outs h) hv hi e
theorem KT.wantAt {k : KT} {w : World} {SE E : TypeId} (h : (k.own SE E).holds w) {g M c : Nat} (hM : k.M = M) (hv : k.wv = .slice (some ⟨g, 0, none⟩) M c) {i : Nat} (hi : i < M) {u : Value} (e : k.want i = u) : w.cell? ⟨g, i, none⟩ = some u := by
  subst hM
  exact rows_at (KT.wants h) hv hi e
theorem fam_wants {k : KT} {w : World} {SE E : TypeId} {F : TI → Own} (h : (Own.fam F).holds w) (hF : F .wants = k.fam SE E .wants) {g M c : Nat} (hM : k.M = M) (hv : k.wv = .slice (some ⟨g, 0, none⟩) M c) {i : Nat} (hi : i < M) {u : Value} (e : k.want i = u) : w.cell? ⟨g, i, none⟩ = some u := by
  subst hM
  have h1 := h.1 .wants
  rw [hF] at h1
  exact rows_at h1 hv hi e
theorem fam_outs {k : KT} {w : World} {SE E : TypeId} {F : TI → Own} (h : (Own.fam F).holds w) (hF : F .outs = k.fam SE E .outs) {g M c : Nat} (hM : k.M = M) (hv : k.ov = .slice (some ⟨g, 0, none⟩) M c) {i : Nat} (hi : i < M) {u : Value} (e : k.out i = u) : w.cell? ⟨g, i, none⟩ = some u := by
  subst hM
  have h1 := h.1 .outs
  rw [hF] at h1
  exact rows_at h1 hv hi e
/-- While one grows. -/
def KT.mid (k : KT) (SE E : TypeId) (i : Nat) (p z : Own) : TI → Own := upd (upd (upd (k.fam SE E) .x p) (.o i) Own.emp) .z z
theorem KT.mid_start (k : KT) (SE E : TypeId) (i : Nat) (p z : Own) : Own.fam (upd (upd (upd (k.fam SE E) .x p) (.o i) Own.emp) .z z) = Own.fam (k.mid SE E i p z) := rfl
theorem KT.mid_x (k : KT) (SE E : TypeId) (i : Nat) (p z p' : Own) : Own.fam (upd (k.mid SE E i p z) .x p') = Own.fam (k.mid SE E i p' z) := Own.fam_as fun j => by
  cases j <;> simp [upd, KT.mid]
theorem KT.mid_z (k : KT) (SE E : TypeId) (i : Nat) (p z z' : Own) : Own.fam (upd (k.mid SE E i p z) .z z') = Own.fam (k.mid SE E i p z') := Own.fam_as fun j => by
  cases j <;> simp [upd, KT.mid]
theorem KT.mid_at_x (k : KT) (SE E : TypeId) (i : Nat) (p z : Own) : k.mid SE E i p z .x = p := by simp [KT.mid, upd]
theorem KT.mid_at_z (k : KT) (SE E : TypeId) (i : Nat) (p z : Own) : k.mid SE E i p z .z = z := by simp [KT.mid, upd]
theorem KT.mid_hx {k : KT} {SE E : TypeId} {i : Nat} {p z : Own} {w : World} (h : (Own.fam (k.mid SE E i p z)).holds w) : p.holds w := by
  have := h.1 .x
  rwa [KT.mid_at_x] at this
theorem KT.mid_hz {k : KT} {SE E : TypeId} {i : Nat} {p z : Own} {w : World} (h : (Own.fam (k.mid SE E i p z)).holds w) : z.holds w := by
  have := h.1 .z
  rwa [KT.mid_at_z] at this
theorem KT.mid_tx {k : KT} {SE E : TypeId} {i : Nat} {p z p' : Own} {w w' : World} (h : (Own.fam (k.mid SE E i p z)).holds w) (t : Turns w w' p p') : Turns w w' (Own.fam (k.mid SE E i p z)) (Own.fam (k.mid SE E i p' z)) :=
  (Turns.famE h .x (KT.mid_at_x ..) t).to (KT.mid_x ..)
theorem KT.mid_tz {k : KT} {SE E : TypeId} {i : Nat} {p z z' : Own} {w w' : World} (h : (Own.fam (k.mid SE E i p z)).holds w) (t : Turns w w' z z') : Turns w w' (Own.fam (k.mid SE E i p z)) (Own.fam (k.mid SE E i p z')) :=
  (Turns.famE h .z (KT.mid_at_z ..) t).to (KT.mid_z ..)
theorem KT.mid_outs (k : KT) (SE E : TypeId) (i : Nat) (p z : Own) : k.mid SE E i p z .outs = Own.row SE 1 k.ov k.M ((List.range k.M).map k.out) := by simp [KT.mid, upd, KT.fam]
theorem KT.mid_wants (k : KT) (SE E : TypeId) (i : Nat) (p z : Own) : k.mid SE E i p z .wants = Own.row SE 1 k.wv k.M ((List.range k.M).map k.want) := by simp [KT.mid, upd, KT.fam]
theorem KT.mid_wants2 (k : KT) (SE E : TypeId) (i : Nat) (p z o : Own) : upd (k.mid SE E i p z) .outs o .wants = Own.row SE 1 k.wv k.M ((List.range k.M).map k.want) := by simp [KT.mid, upd, KT.fam]
/-- The new lists are hung up: the grown family is the kept lists' own. -/
theorem KT.close (k : KT) {w : World} {SE E : TypeId} {i n0 M n : Nat} {v0 ov wv x y : Value} {xs0 zs : List Value} (hi : k.fr i = true) (hM : k.fr k.M = false) (e1 : k.out i = v0) (e2 : k.len i = n0) (e3 : k.xs i = xs0) (e4 : k.M = M)
    (h : (Own.fam (upd (upd (k.mid SE E i (Own.pre E v0 n0 xs0 x n zs) (Own.row E 1 y n zs)) .outs (Own.row SE 1 ov (M + 1) ((List.range M).map k.out ++ [x]))) .wants (Own.row SE 1 wv (M + 1) ((List.range M).map k.want ++ [y])))).holds w) :
    Turns w w (Own.fam (upd (upd (k.mid SE E i (Own.pre E v0 n0 xs0 x n zs) (Own.row E 1 y n zs)) .outs (Own.row SE 1 ov (M + 1) ((List.range M).map k.out ++ [x]))) .wants (Own.row SE 1 wv (M + 1) ((List.range M).map k.want ++ [y])))) ((k.grow i ov wv x y n zs).own SE E) := by
  subst e1 e2 e3 e4
  refine KT.settle k hi hM h ?_ ?_ ?_ (fun j => ?_) (fun j => ?_) ?_ ?_
  · simp [upd, KT.mid, KT.fam]
  · simp [upd, KT.mid, KT.fam]
  · simp [upd, KT.mid, KT.fam]
  · by_cases e : j = i
    · simp [upd, KT.mid, e]
    · simp [upd, KT.mid, e]
  · simp [upd, KT.mid]
  · simp [upd]
  · simp [upd]
theorem KT.Wf.top {a : Nat} (h : k.Wf a a) : k.Wf k.M k.M := ⟨Nat.le_refl _, Nat.le_refl _, fun i => by
  rw [h.fr, decide_eq_decide]
  omega, h.old⟩
end Go.Hp
