/- The law's items: right. -/
import Derived.Test.YtkpgdonpmfebaaaBlS
namespace Go.Proofs.Ytkpgdonpmfebaaa.Bt
open Go.RowKit Go.Hp
attribute [local go_sem] min2_lean min_two max2_lean max_two
set_option linter.unusedSimpArgs false
set_option linter.unusedVariables false
set_option maxRecDepth 100000

structure ItA where
  kind : Int
  n : Int
  v : Bool
  s : ByteArray
def ItA.cells (x : ItA) : Array Value := #[.int .i64 x.kind, .int .i64 x.n, .bool x.v, .string x.s]
def ItA.right (x : ItA) : ItA := if x.kind < 1 ∨ 5 < x.kind then { x with kind := 3 } else if x.kind = 1 ∧ x.n < 0 then { x with n := -(x.n + 1) } else x
theorem right_any (x : ItA) (w : World) (hn0 : -9223372036854775808 ≤ x.n) (hn1 : x.n ≤ 9223372036854775807) :
    Calls Try.prog 33 #[.agg x.cells] w fun r w' => r = .returned (.agg x.right.cells) ∧ Chg (fun _ => False) w w' := by
  obtain ⟨k, n, v, s⟩ := x
  simp only [] at hn0 hn1
  by_cases h1 : k < 1 ∨ 5 < k
  · have hr : (ItA.mk k n v s).right = ItA.mk 3 n v s := by rw [ItA.right, if_pos h1]
    rw [hr]
    clear hr
    have hd : (decide (k < 1) = true) ∨ (decide (k < 1) = false ∧ decide (5 < k) = true) := by
      by_cases h : k < 1
      · left; simpa using h
      · right; exact ⟨by simpa using h, by simp; omega⟩
    rcases hd with hd | ⟨hd, hd2⟩
    all_goals
      simp only [ItA.cells]
      go_enter Try.func33, Try.ntmps33
      go_wp2
      refine bodyPost_ret (v := .agg #[.int .i64 3, .int .i64 n, .bool v, .string s]) (by simp [results, Try.results33, go_sem]) rfl ⟨rfl, ?_⟩
      repeat (first | (with_reducible exact Chg.refl _ _) | (with_reducible refine Chg.set ?_ (Or.inl (by simp)) _) | (with_reducible refine Chg.alloc ?_ _) | (with_reducible refine Chg.drew ?_))
  · by_cases h2 : k = 1 ∧ n < 0
    · have hr : (ItA.mk k n v s).right = ItA.mk k (-(n + 1)) v s := by rw [ItA.right, if_neg h1, if_pos h2]
      rw [hr]
      clear hr
      obtain ⟨rfl, h3⟩ := h2
      have hd2 : decide (n < 0) = true := by simpa using h3
      have hw1 : IntKind.i64.wrap (n + 1) = n + 1 := IntWalk.i64_in _ (by omega)
      have hw2 : IntKind.i64.wrap (-(n + 1)) = -(n + 1) := IntWalk.i64_in _ (by omega)
      simp only [ItA.cells]
      go_enter Try.func33, Try.ntmps33
      go_wp2
      refine bodyPost_ret (v := .agg #[.int .i64 1, .int .i64 (-(n + 1)), .bool v, .string s]) (by simp [results, Try.results33, go_sem]) rfl ⟨rfl, ?_⟩
      repeat (first | (with_reducible exact Chg.refl _ _) | (with_reducible refine Chg.set ?_ (Or.inl (by simp)) _) | (with_reducible refine Chg.alloc ?_ _) | (with_reducible refine Chg.drew ?_))
    · have hr : (ItA.mk k n v s).right = ItA.mk k n v s := by rw [ItA.right, if_neg h1, if_neg h2]
      rw [hr]
      clear hr
      have hd : decide (k < 1) = false := by simp; omega
      have hd1 : decide (5 < k) = false := by simp; omega
      have hd2 : ((k == 1) = false ∧ True) ∨ ((k == 1) = true ∧ decide (n < 0) = false) := by
        by_cases h : k = 1
        · right; exact ⟨by simpa using h, by simp; omega⟩
        · left; exact ⟨by simpa using h, trivial⟩
      rcases hd2 with ⟨h3, h4⟩ | ⟨h3, h4⟩
      all_goals
        simp only [ItA.cells]
        go_enter Try.func33, Try.ntmps33
        go_wp2
        refine bodyPost_ret (v := .agg #[.int .i64 k, .int .i64 n, .bool v, .string s]) (by simp [results, Try.results33, go_sem]) rfl ⟨rfl, ?_⟩
        repeat (first | (with_reducible exact Chg.refl _ _) | (with_reducible refine Chg.set ?_ (Or.inl (by simp)) _) | (with_reducible refine Chg.alloc ?_ _) | (with_reducible refine Chg.drew ?_))
end Go.Proofs.Ytkpgdonpmfebaaa.Bt
