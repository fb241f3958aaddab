/- Package sheets: the tree of stamps, plainly. -/
import Derived.Test.YtmpkjfengfgagaaBkD
namespace Go.Proofs.Ytmpkjfengfgagaa.Bk
open Go.RowKit Go.Hp
attribute [local go_sem] min2_lean min_two max2_lean max_two
set_option linter.unusedSimpArgs false
set_option linter.unusedVariables false
set_option maxRecDepth 100000
/-- The greatest of n stamps from a place on. -/
def mostF (f : Nat → Int) (from_ : Nat) : Nat → Int
  | 0 => 0
  | n + 1 => max (mostF f from_ n) (f (from_ + n))
theorem mostF_add (f : Nat → Int) (from_ a : Nat) : ∀ b, mostF f from_ (a + b) = max (mostF f from_ a) (mostF f (from_ + a) b)
  | 0 => by
    have : ∀ n, 0 ≤ mostF f from_ n := fun n => by induction n with
      | zero => exact Int.le_refl _
      | succ n ih => exact Int.le_trans ih (Int.le_max_left _ _)
    show mostF f from_ a = max (mostF f from_ a) 0
    have := this a
    omega
  | b + 1 => by
    have h := mostF_add f from_ a b
    show max (mostF f from_ (a + b)) (f (from_ + (a + b))) = max (mostF f from_ a) (max (mostF f (from_ + a) b) (f (from_ + a + b)))
    rw [h, ← Nat.add_assoc]
    omega
theorem mostF_le {f : Nat → Int} {from_ : Nat} {v : Int} (hv : 0 ≤ v) : ∀ n, (mostF f from_ n ≤ v ↔ ∀ i, i < n → f (from_ + i) ≤ v)
  | 0 => ⟨fun _ i hi => absurd hi (Nat.not_lt_zero _), fun _ => hv⟩
  | n + 1 => by
    have ih := mostF_le (f := f) (from_ := from_) hv n
    show max (mostF f from_ n) (f (from_ + n)) ≤ v ↔ _
    constructor
    · intro h i hi
      by_cases e : i = n
      · subst e; omega
      · exact ih.1 (by omega) i (by omega)
    · intro h
      have h1 := ih.2 fun i hi => h i (by omega)
      have h2 := h n (by omega)
      omega
theorem node_lt {wd x d from_ : Nat} (hx : x * 2 ^ (d + 1) = wd + from_) (hf : from_ + 2 ^ (d + 1) ≤ wd) : x < wd := by
  have h0 : 1 ≤ 2 ^ d := Nat.one_le_two_pow
  rw [Nat.pow_succ] at hx hf
  have h2 : x * (2 ^ d * 2) ≥ x * 2 := Nat.mul_le_mul_left _ (by omega)
  omega
theorem node_two {wd x d from_ : Nat} (hx : x * 2 ^ (d + 1) = wd + from_) (hf : from_ + 2 ^ (d + 1) ≤ wd) : (2 * x) * 2 ^ d = wd + from_ ∧ from_ + 2 ^ d ≤ wd ∧ (2 * x + 1) * 2 ^ d = wd + (from_ + 2 ^ d) ∧ (from_ + 2 ^ d) + 2 ^ d ≤ wd := by
  have e : (2 * x) * 2 ^ d = x * 2 ^ (d + 1) := by rw [Nat.pow_succ, Nat.mul_comm 2 x, Nat.mul_assoc, Nat.mul_comm 2]
  have e2 : (2 * x + 1) * 2 ^ d = (2 * x) * 2 ^ d + 2 ^ d := by rw [Nat.add_mul, Nat.one_mul]
  rw [Nat.pow_succ] at hf
  refine ⟨by omega, by omega, by omega, by omega⟩
theorem tree_top {wd : Nat} {tp at_ : Nat → Int} (h : Tree wd tp at_) (h0 : ∀ i, 0 ≤ at_ i) : ∀ d x from_, x * 2 ^ d = wd + from_ → from_ + 2 ^ d ≤ wd → tp x = mostF at_ from_ (2 ^ d)
  | 0, x, from_, hx, hf => by
    have e : x = wd + from_ := by simpa using hx
    have hf : from_ < wd := by rw [Nat.pow_zero] at hf; omega
    rw [e, h.leaf _ hf]
    show _ = max 0 (at_ (from_ + 0))
    have := h0 from_
    rw [Nat.add_zero]
    omega
  | d + 1, x, from_, hx, hf => by
    obtain ⟨a1, a2, a3, a4⟩ := node_two hx hf
    have hlt := node_lt hx hf
    have h1 : 1 ≤ x := by
      rcases Nat.eq_zero_or_pos x with e | e
      · subst e
        have h0 : 1 ≤ 2 ^ (d + 1) := Nat.one_le_two_pow
        rw [Nat.zero_mul] at hx
        omega
      · exact e
    rw [h.node x h1 hlt, tree_top h h0 d _ _ a1 a2, tree_top h h0 d _ _ a3 a4, Nat.pow_succ, Nat.mul_two, mostF_add]
/-- How many nodes are looked at, by places. -/
def lkR (at_ : Nat → Int) (a : Int) : Nat → Nat → Nat
  | 0, _ => 1
  | d + 1, from_ => if mostF at_ from_ (2 ^ (d + 1)) ≤ a then 1 else 1 + lkR at_ a d from_ + lkR at_ a d (from_ + 2 ^ d)
theorem looks_eq (lk : Nat → (Nat → Int) → Int → Nat → Nat → Nat) (hz : ∀ wd tp a x, lk wd tp a 0 x = 1) (hs : ∀ wd tp a d x, lk wd tp a (d + 1) x = if wd ≤ x ∨ tp x ≤ a then 1 else 1 + lk wd tp a d (2 * x) + lk wd tp a d (2 * x + 1))
    {wd : Nat} {tp at_ : Nat → Int} (h : Tree wd tp at_) (h0 : ∀ i, 0 ≤ at_ i) (a : Int) : ∀ d x from_, x * 2 ^ d = wd + from_ → from_ + 2 ^ d ≤ wd → lk wd tp a d x = lkR at_ a d from_
  | 0, x, from_, hx, hf => by rw [hz]; rfl
  | d + 1, x, from_, hx, hf => by
    obtain ⟨a1, a2, a3, a4⟩ := node_two hx hf
    have hlt := node_lt hx hf
    rw [hs, lkR, looks_eq lk hz hs h h0 a d _ _ a1 a2, looks_eq lk hz hs h h0 a d _ _ a3 a4, tree_top h h0 _ _ _ hx hf]
    have : ¬ wd ≤ x := by omega
    simp only [this, false_or]
/-- Those that are newer, among n from a place on. -/
def newer (at_ : Nat → Int) (a : Int) (from_ n : Nat) : List Nat := ((List.range n).map (from_ + ·)).filter fun i => decide (a < at_ i)
theorem newer_add (at_ : Nat → Int) (a : Int) (from_ m n : Nat) : newer at_ a from_ (m + n) = newer at_ a from_ m ++ newer at_ a (from_ + m) n := by
  unfold newer
  rw [List.range_add, List.map_append, List.filter_append, List.map_map]
  congr 3
  funext i
  simp [Nat.add_assoc]
theorem newer_nil {at_ : Nat → Int} {a : Int} (h0 : 0 ≤ a) {from_ n : Nat} : newer at_ a from_ n = [] ↔ mostF at_ from_ n ≤ a := by
  rw [mostF_le h0]
  unfold newer
  rw [List.filter_eq_nil_iff]
  constructor
  · intro h i hi
    have := h (from_ + i) (List.mem_map.2 ⟨i, List.mem_range.2 hi, rfl⟩)
    simpa using this
  · intro h x hx
    obtain ⟨i, hi, rfl⟩ := List.mem_map.1 hx
    have := h i (List.mem_range.1 hi)
    simp; omega
theorem lkR_pos (at_ : Nat → Int) (a : Int) : ∀ d from_, 1 ≤ lkR at_ a d from_
  | 0, _ => Nat.le_refl _
  | d + 1, from_ => by
    unfold lkR
    split <;> omega
/-- Few nodes are looked at. -/
theorem lkR_few {at_ : Nat → Int} {a : Int} (h0 : 0 ≤ a) : ∀ d from_, lkR at_ a d from_ ≤ 1 + 2 * d * (newer at_ a from_ (2 ^ d)).length
  | 0, _ => by simp [lkR]
  | d + 1, from_ => by
    have i1 := lkR_few h0 (at_ := at_) d from_
    have i2 := lkR_few h0 (at_ := at_) d (from_ + 2 ^ d)
    unfold lkR
    split
    · omega
    · rename_i hm
      have hne : newer at_ a from_ (2 ^ (d + 1)) ≠ [] := fun e => hm ((newer_nil h0).1 e)
      have hp : 1 ≤ (newer at_ a from_ (2 ^ (d + 1))).length := List.length_pos_iff.2 hne
      have he : (newer at_ a from_ (2 ^ (d + 1))).length = (newer at_ a from_ (2 ^ d)).length + (newer at_ a (from_ + 2 ^ d) (2 ^ d)).length := by
        rw [Nat.pow_succ, Nat.mul_two, newer_add, List.length_append]
      rw [he] at hp ⊢
      generalize (newer at_ a from_ (2 ^ d)).length = c1 at *
      generalize (newer at_ a (from_ + 2 ^ d) (2 ^ d)).length = c2 at *
      have e1 : 2 * (d + 1) * (c1 + c2) = 2 * d * c1 + 2 * d * c2 + 2 * (c1 + c2) := by
        rw [Nat.mul_add 2 d 1, Nat.add_mul, Nat.mul_add (2 * d)]
      rw [e1]
      omega
theorem lkR_one {at_ : Nat → Int} {a : Int} (h0 : 0 ≤ a) (d from_ : Nat) (h : newer at_ a from_ (2 ^ d) = []) : lkR at_ a d from_ = 1 := by
  cases d with
  | zero => rfl
  | succ d => unfold lkR; rw [if_pos ((newer_nil h0).1 h)]
theorem lkR_three {at_ : Nat → Int} {a : Int} (h0 : 0 ≤ a) (d from_ : Nat) (h : newer at_ a from_ (2 ^ (d + 1)) ≠ []) : 3 ≤ lkR at_ a (d + 1) from_ := by
  have h1 := lkR_pos at_ a d from_
  have h2 := lkR_pos at_ a d (from_ + 2 ^ d)
  unfold lkR
  rw [if_neg fun e => h ((newer_nil h0).2 e)]
  omega
theorem wd_pow {n : Nat} (h1 : 1 ≤ n) (h2 : n ≤ 64) : ∃ e, e ≤ 6 ∧ wdF n = 2 ^ e ∧ (e = 0 ↔ n = 1) := by
  unfold wdF
  by_cases a : n ≤ 1
  · exact ⟨0, by omega, by rw [if_pos a], by omega⟩
  · rw [if_neg a]
    by_cases a1 : n ≤ 2
    · exact ⟨1, by omega, by rw [if_pos a1], by omega⟩
    · rw [if_neg a1]
      by_cases a2 : n ≤ 4
      · exact ⟨2, by omega, by rw [if_pos a2], by omega⟩
      · rw [if_neg a2]
        by_cases a3 : n ≤ 8
        · exact ⟨3, by omega, by rw [if_pos a3], by omega⟩
        · rw [if_neg a3]
          by_cases a4 : n ≤ 16
          · exact ⟨4, by omega, by rw [if_pos a4], by omega⟩
          · rw [if_neg a4]
            by_cases a5 : n ≤ 32
            · exact ⟨5, by omega, by rw [if_pos a5], by omega⟩
            · exact ⟨6, by omega, by rw [if_neg a5], by omega⟩
theorem most_pad {f : Nat → Int} {n m : Nat} (h : n ≤ m) (hz : ∀ i, n ≤ i → f i = 0) : mostF f 0 m = mostF f 0 n := by
  obtain ⟨k, rfl⟩ : ∃ k, m = n + k := ⟨m - n, by omega⟩
  induction k with
  | zero => rfl
  | succ k ih =>
    have := ih (by omega)
    show max (mostF f 0 (n + k)) (f (0 + (n + k))) = _
    rw [this, hz (0 + (n + k)) (by omega)]
    have : ∀ n, 0 ≤ mostF f 0 n := fun n => by induction n with
      | zero => exact Int.le_refl _
      | succ n ih => exact Int.le_trans ih (Int.le_max_left _ _)
    have := this n
    omega
theorem newer_pad {f : Nat → Int} {a : Int} (h0 : 0 ≤ a) {n m : Nat} (h : n ≤ m) (hz : ∀ i, n ≤ i → f i = 0) : newer f a 0 m = newer f a 0 n := by
  obtain ⟨k, rfl⟩ : ∃ k, m = n + k := ⟨m - n, by omega⟩
  rw [newer_add]
  have : newer f a (0 + n) k = [] := by
    rw [newer_nil h0, mostF_le h0]
    intro i hi
    rw [hz _ (by omega)]
    exact h0
  rw [this, List.append_nil]
end Go.Proofs.Ytmpkjfengfgagaa.Bk
