/- Package sheets: what is read of a book. -/
import Derived.Test.YtmpkjfengfgagaaBkA
namespace Go.Proofs.Ytmpkjfengfgagaa.Bk
open Go.RowKit Go.Hp
attribute [local go_sem] min2_lean min_two max2_lean max_two
set_option linter.unusedSimpArgs false
set_option linter.unusedVariables false
set_option maxRecDepth 100000
theorem last_any (g : Nat) (v : Int) (w : World) (h : w.cell? ⟨g, 11, none⟩ = some (.int .i64 v)) : Calls Try.prog 27 #[.pointer (some ⟨g, 0, none⟩)] w fun e w' => e = .returned (.int .i64 v) ∧ w' = w := by
  go_enter Try.func27, Try.ntmps27
  go_wp2_with fail
  go_ret
  exact ⟨rfl, rfl⟩
theorem there_any (g n : Nat) (num : Int) (w : World) (h : w.cell? ⟨g, 0, none⟩ = some (.int .i64 n)) : Calls Try.prog 71 #[.pointer (some ⟨g, 0, none⟩), .int .i64 num] w fun e w' => e = .returned (.bool (decide (0 ≤ num ∧ num < n))) ∧ w' = w := by
  by_cases h0 : 0 ≤ num
  · have d0 : decide (0 ≤ num) = true := by simpa using h0
    by_cases h1 : num < n
    · have d1 : decide (num < (n : Int)) = true := by simpa using h1
      have d2 : decide (0 ≤ num ∧ num < n) = true := by simp; omega
      rw [d2]
      go_enter Try.func71, Try.ntmps71
      go_wp2_with fail
      go_ret
      exact ⟨rfl, rfl⟩
    · have d1 : decide (num < (n : Int)) = false := by simpa using h1
      have d2 : decide (0 ≤ num ∧ num < n) = false := by simp; omega
      rw [d2]
      go_enter Try.func71, Try.ntmps71
      go_wp2_with fail
      go_ret
      exact ⟨rfl, rfl⟩
  · have d0 : decide (0 ≤ num) = false := by simpa using h0
    have d2 : decide (0 ≤ num ∧ num < n) = false := by simp; omega
    rw [d2]
    go_enter Try.func71, Try.ntmps71
    go_wp2_with fail
    go_ret
    exact ⟨rfl, rfl⟩
theorem sheet_any (g u p : Nat) (w : World) (hu : u < 64) (h : w.cell? ⟨g, 2 + u / 8, none⟩ = some (.pointer (some ⟨p, 0, none⟩))) :
    Calls Try.prog 68 #[.pointer (some ⟨g, 0, none⟩), .int .i64 u] w fun e w' => e = .returned (.pointer (some ⟨p, (u % 8) * 2, none⟩)) ∧ w' = w := by
  have q1 : Int.tdiv (u : Int) 8 = ((u / 8 : Nat) : Int) := rfl
  have q2 : Int.tmod (u : Int) 8 = ((u % 8 : Nat) : Int) := rfl
  have b1 : ((u / 8 : Nat) : Int) < 8 := by omega
  have b2 : ((u % 8 : Nat) : Int) < 8 := by omega
  have b3 : (0 : Int) ≤ ((u / 8 : Nat) : Int) := Int.natCast_nonneg _
  have b4 : (0 : Int) ≤ ((u % 8 : Nat) : Int) := Int.natCast_nonneg _
  have w1 : IntKind.i64.wrap ((u / 8 : Nat) : Int) = ((u / 8 : Nat) : Int) := IntWalk.i64_in _ (by omega)
  have w2 : IntKind.i64.wrap ((u % 8 : Nat) : Int) = ((u % 8 : Nat) : Int) := IntWalk.i64_in _ (by omega)
  generalize hk : u / 8 = k at *
  generalize hr : u % 8 = r at *
  clear hk hr
  go_enter Try.func68, Try.ntmps68
  go_wp2_with fail
  go_ret
  exact ⟨rfl, rfl⟩
/-- How many nodes are looked at, from a node on. -/
def lkF (wd : Nat) (tp : Nat → Int) (at_ : Int) : Nat → Nat → Nat
  | 0, _ => 1
  | d + 1, node => if wd ≤ node ∨ tp node ≤ at_ then 1 else 1 + lkF wd tp at_ d (2 * node) + lkF wd tp at_ d (2 * node + 1)
theorem lkF_le (wd : Nat) (tp : Nat → Int) (at_ : Int) : ∀ d node, lkF wd tp at_ d node + 1 ≤ 2 ^ (d + 1)
  | 0, _ => by simp [lkF]
  | d + 1, node => by
    have h1 := lkF_le wd tp at_ d (2 * node)
    have h2 := lkF_le wd tp at_ d (2 * node + 1)
    have h3 : 1 ≤ 2 ^ (d + 1) := Nat.one_le_two_pow
    unfold lkF
    rw [Nat.pow_succ]
    split <;> omega
theorem looks_rec (g wd : Nat) (tp : Nat → Int) (at_ : Int) (w : World) (hw : w.cell? ⟨g, 1, none⟩ = some (.int .i64 wd)) (ht : ∀ i, i < 128 → w.cell? ⟨g, 10 + i, none⟩ = some (.int .i64 (tp i))) (hwd : wd ≤ 64) :
    ∀ d node, d ≤ 6 → 1 ≤ node → node < 128 → wd ≤ node * 2 ^ d → Calls Try.prog 70 #[.pointer (some ⟨g, 0, none⟩), .int .i64 node, .int .i64 at_] w fun e w' => e = .returned (.int .i64 (lkF wd tp at_ d node)) ∧ w' = w
  | 0, node, _, _, _, h => by
    have h : wd ≤ node := by simpa using h
    have d1 : decide ((wd : Int) ≤ (node : Int)) = true := by simp; omega
    have d2 : decide (wd ≤ node) = true := by simp; omega
    unfold lkF
    clear ht
    go_enter Try.func70, Try.ntmps70
    go_wp2_with fail
    go_ret
    exact ⟨rfl, rfl⟩
  | d + 1, node, hd6, h1, h2, h => by
    have HT := ht node h2
    have i0 : (0 : Int) ≤ (node : Int) := Int.natCast_nonneg _
    have i1 : (node : Int) < 128 := by omega
    by_cases c1 : wd ≤ node
    · have d1 : decide ((wd : Int) ≤ (node : Int)) = true := by simp; omega
      have d2 : decide (wd ≤ node) = true := by simp; omega
      unfold lkF
      rw [if_pos (Or.inl c1)]
      clear ht h
      go_enter Try.func70, Try.ntmps70
      go_wp2_with fail
      go_ret
      exact ⟨rfl, rfl⟩
    · have d1 : decide ((wd : Int) ≤ (node : Int)) = false := by simp; omega
      have d2 : decide (wd ≤ node) = false := by simp; omega
      by_cases c2 : tp node ≤ at_
      · have d3 : decide (tp node ≤ at_) = true := by simpa using c2
        unfold lkF
        rw [if_pos (Or.inr c2)]
        clear ht h
        go_enter Try.func70, Try.ntmps70
        go_wp2_with fail
        go_ret
        exact ⟨rfl, rfl⟩
      · have d3 : decide (tp node ≤ at_) = false := by simpa using c2
        have hp : wd ≤ 2 * node * 2 ^ d := by rw [Nat.pow_succ] at h; rw [Nat.mul_comm 2 node, Nat.mul_assoc, Nat.mul_comm 2]; exact h
        have hp2 : wd ≤ (2 * node + 1) * 2 ^ d := Nat.le_trans hp (Nat.mul_le_mul_right _ (Nat.le_succ _))
        have R1 := Lib.hid (looks_rec g wd tp at_ w hw ht hwd d (2 * node) (by omega) (by omega) (by omega) hp)
        have R2 := Lib.hid (looks_rec g wd tp at_ w hw ht hwd d (2 * node + 1) (by omega) (by omega) (by omega) hp2)
        have e1 : (2 : Int) * (node : Int) = ((2 * node : Nat) : Int) := by omega
        have e2 : (2 : Int) * (node : Int) + 1 = ((2 * node + 1 : Nat) : Int) := by omega
        have w1 : IntKind.i64.wrap ((2 : Int) * (node : Int)) = ((2 * node : Nat) : Int) := by rw [IntWalk.i64_in _ (by omega)]; omega
        have w2 : IntKind.i64.wrap (((2 * node : Nat) : Int) + 1) = ((2 * node + 1 : Nat) : Int) := by rw [IntWalk.i64_in _ (by omega)]; omega
        have l1 := lkF_le wd tp at_ d (2 * node)
        have l2 := lkF_le wd tp at_ d (2 * node + 1)
        have l3 : 2 ^ (d + 1) ≤ 2 ^ 6 := Nat.pow_le_pow_right (n := 2) (by omega) (by omega)
        have HE : Hid (lkF wd tp at_ (d + 1) node = 1 + lkF wd tp at_ d (2 * node) + lkF wd tp at_ d (2 * node + 1)) := Lib.hid (by
          rw [lkF]
          rw [if_neg (by omega)])
        rw [HE.out]
        generalize lkF wd tp at_ d (2 * node) = x at *
        generalize lkF wd tp at_ d (2 * node + 1) = y at *
        have w3 : IntKind.i64.wrap ((1 : Int) + (x : Int)) = ((1 + x : Nat) : Int) := by rw [IntWalk.i64_in _ (by omega)]; omega
        have w4 : IntKind.i64.wrap (((1 + x : Nat) : Int) + (y : Int)) = ((1 + x + y : Nat) : Int) := by rw [IntWalk.i64_in _ (by omega)]; omega
        generalize hn2 : 2 * node = n2 at *
        generalize hn3 : n2 + 1 = n3 at *
        have w5 : IntKind.i64.wrap ((1 : Int) + (x : Int)) = (1 : Int) + (x : Int) := IntWalk.i64_in _ (by omega)
        have w6 : IntKind.i64.wrap ((1 : Int) + (x : Int) + (y : Int)) = (1 : Int) + (x : Int) + (y : Int) := IntWalk.i64_in _ (by omega)
        clear ht h hp hp2 l1 l2 l3 HE e1 e2 hn2 hn3
        go_enter Try.func70, Try.ntmps70
        go_wp2_with (first
          | (go_at_call 70; (with_reducible refine R1.out.mono ?_); rintro r w1' ⟨rfl, hq⟩; have hq := hq.symm; subst hq)
          | (go_at_call 70; (with_reducible refine R2.out.mono ?_); rintro r w1' ⟨rfl, hq⟩; have hq := hq.symm; subst hq))
        go_ret
        exact ⟨rfl, rfl⟩
end Go.Proofs.Ytmpkjfengfgagaa.Bk
