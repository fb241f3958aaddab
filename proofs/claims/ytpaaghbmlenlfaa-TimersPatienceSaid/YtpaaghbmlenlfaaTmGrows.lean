/- The backoffs of package timers: what New, Now, Next, Reset do to their block; TimersGrows walked. -/
import Derived.Test.YtpaaghbmlenlfaaProg
import Derived.Test.YtpaaghbmlenlfaaHp
import Derived.WalkKit
import Derived.ProofKit
import Derived.BigQuiet
import Derived.Deep.QuietTactic
import Derived.Lib.Hide
namespace Go.Proofs.Ytpaaghbmlenlfaa.Tm
open Go.RowKit Go.Hp
attribute [local go_sem] min2_lean min_two max2_lean max_two

theorem new_any (a b : Int) (w : World) (h : 1 ≤ a) (h2 : a ≤ b) (h3 : b ≤ 1024) :
    Calls Try.prog 12 #[.int .i64 a, .int .i64 b] w fun e w' => e = .returned (.tuple #[.pointer (some ⟨w.heap.size, 0, none⟩), .int .i64 0]) ∧ w.alloc (.cells #[.int .i64 a, .int .i64 b, .int .i64 a] 82) = w' := by
  go_enter Try.func12, Try.ntmps12
  go_wp2
  go_ret2
  exact ⟨rfl, rfl⟩
theorem now_any (g : Nat) (n : Int) (w : World) (h : w.cell? ⟨g, 2, none⟩ = some (.int .i64 n)) :
    Calls Try.prog 13 #[.pointer (some ⟨g, 0, none⟩)] w fun e w' => e = .returned (.int .i64 n) ∧ w = w' := by
  go_enter Try.func13, Try.ntmps13
  go_wp2
  go_ret
  exact ⟨rfl, rfl⟩
theorem next_any (g : Nat) (n m : Int) (w : World) (h : w.cell? ⟨g, 2, none⟩ = some (.int .i64 n)) (h2 : w.cell? ⟨g, 1, none⟩ = some (.int .i64 m)) (hf : w.frozen? ⟨g, 2, none⟩ = false)  (h0 : 0 ≤ n) (h1 : n ≤ 1024) :
    Calls Try.prog 14 #[.pointer (some ⟨g, 0, none⟩)] w fun e w' => e = .returned (.int .i64 n) ∧ w.setCell ⟨g, 2, none⟩ (.int .i64 (min (2*n) m)) = w' := by
  go_enter Try.func14, Try.ntmps14
  go_wp2
  go_ret
  exact ⟨rfl, rfl⟩
theorem reset_any (g : Nat) (m : Int) (w : World) (n : Value) (h : w.cell? ⟨g, 2, none⟩ = some n) (h2 : w.cell? ⟨g, 0, none⟩ = some (.int .i64 m)) (hf : w.frozen? ⟨g, 2, none⟩ = false) :
    Calls Try.prog 15 #[.pointer (some ⟨g, 0, none⟩)] w fun e w' => e = .returned (.tuple #[]) ∧ w.setCell ⟨g, 2, none⟩ (.int .i64 m) = w' := by
  go_enter Try.func15, Try.ntmps15
  go_wp2
  go_end0
  exact ⟨rfl, rfl⟩
theorem new_no (a b : Int) (w : World) (h : a < 1 ∨ b < a ∨ 1024 < b) :
    Calls Try.prog 12 #[.int .i64 a, .int .i64 b] w fun e w' => ∃ k, e = .returned (.tuple #[.pointer none, .int .i64 k]) ∧ (k != 0) = true ∧ w = w' := by
  have H : ∀ e w', (∃ k : Int, (k = 30 ∨ k = 32) ∧ e = Ending.returned (.tuple #[.pointer none, .int .i64 k]) ∧ w = w') → ∃ k : Int, e = .returned (.tuple #[.pointer none, .int .i64 k]) ∧ (k != 0) = true ∧ w = w' :=
    fun e w' ⟨k, hk, he, hw⟩ => ⟨k, he, by simp; omega, hw⟩
  by_cases h1 : a < 1
  · refine Calls.mono (R := fun e w' => e = .returned (.tuple #[.pointer none, .int .i64 30]) ∧ w = w') ?_ (fun e w' ⟨he, hw⟩ => ⟨30, he, by decide, hw⟩)
    go_enter Try.func12, Try.ntmps12
    go_wp2
    go_ret2
    exact ⟨rfl, rfl⟩
  · by_cases h2 : 1024 < a
    · refine Calls.mono (R := fun e w' => e = .returned (.tuple #[.pointer none, .int .i64 30]) ∧ w = w') ?_ (fun e w' ⟨he, hw⟩ => ⟨30, he, by decide, hw⟩)
      go_enter Try.func12, Try.ntmps12
      go_wp2
      go_ret2
      exact ⟨rfl, rfl⟩
    · by_cases h3 : 1024 < b
      · refine Calls.mono (R := fun e w' => e = .returned (.tuple #[.pointer none, .int .i64 30]) ∧ w = w') ?_ (fun e w' ⟨he, hw⟩ => ⟨30, he, by decide, hw⟩)
        go_enter Try.func12, Try.ntmps12
        go_wp2
        go_ret2
        exact ⟨rfl, rfl⟩
      · have h4 : b < a := by omega
        clear H h
        refine Calls.mono (R := fun e w' => e = .returned (.tuple #[.pointer none, .int .i64 32]) ∧ w = w') ?_ (fun e w' ⟨he, hw⟩ => ⟨32, he, by decide, hw⟩)
        go_enter Try.func12, Try.ntmps12
        go_wp2
        go_ret2
        exact ⟨rfl, rfl⟩
theorem pow_lo (a : Int) (k : Nat) (h : 1 ≤ a) : 1 ≤ a * 2 ^ k := by
  have : (1 : Int) ≤ 2 ^ k := by
    have := Nat.one_le_two_pow (n := k)
    have e : ((2 ^ k : Nat) : Int) = 2 ^ k := by simp
    omega
  calc (1 : Int) = 1 * 1 := by rfl
    _ ≤ a * 2 ^ k := Int.mul_le_mul h this (by omega) (by omega)
theorem pow_hi (a : Int) (k : Nat) (h : a ≤ 1024) (hk : k < 14) : a * 2 ^ k ≤ 16777216 := by
  have h1 : ((2 ^ k : Nat) : Int) = 2 ^ k := by simp
  have h2 : 2 ^ k ≤ 2 ^ 14 := Nat.pow_le_pow_right (by omega) (by omega)
  have h3 : (2 : Int) ^ k ≤ 16384 := by rw [← h1]; have : 2 ^ 14 = 16384 := by rfl
                                        omega
  have h4 : (0 : Int) ≤ 2 ^ k := by rw [← h1]; exact Int.natCast_nonneg _
  calc a * 2 ^ k ≤ 1024 * 16384 := Int.mul_le_mul h h3 h4 (by omega)
    _ = 16777216 := by rfl
theorem pow_next (a b : Int) (k : Nat) : min (2 * min (a * 2 ^ k) b) b = min (a * 2 ^ (k + 1)) b ∨ b < 0 := by
  rw [Int.pow_succ, ← Int.mul_assoc]
  omega
set_option maxHeartbeats 1000000 in
theorem grows_yes (a b : Int) (w : World) (h : 1 ≤ a) (h2 : a ≤ b) (h3 : b ≤ 1024) :
    Calls Try.prog 7 #[.int .i64 a, .int .i64 b] w fun e w' => e = .returned (.bool true) ∧ Below w.heap.size w w' := by
  obtain ⟨g, hg⟩ : ∃ g, g = w.heap.size := ⟨_, rfl⟩
  have d1 : decide (a < 1) = false := by simp; omega
  have d2 : decide (b < a) = false := by simp; omega
  have d3 : decide (1024 < b) = false := by simp; omega
  have Hg := Lib.hid hg; clear hg
  go_enter Try.func7, Try.ntmps7
  go_wp2_with (go_at_call 12; refine (new_any a b _ h h2 h3).mono ?_; rintro e w' ⟨rfl, rfl⟩; rw [← Hg.out])
  go_loopw [38] (fun s wr => ∃ i : Nat, i ≤ 2 ∧ s = .int .i64 i ∧ Blk wr g #[.int .i64 a, .int .i64 b, .int .i64 a] 82 ∧ Below w.heap.size w wr) (fun s _ => 2 - (intOf s).toNat)
  case atStart => exact ⟨0, by omega, rfl, by rw [Hg.out]; exact Blk.new _ _ _, (Below.refl _ _).alloc (Nat.le_refl _) _⟩
  case round =>
    obtain ⟨i, hi, rfl, hb, hB⟩ := hrel
    by_cases hlt : i < 2
    · have hd : decide ((i : Int) < 2) = true := by simp; omega
      go_wp2_with fail
      go_loopw [40] (fun s wx => ∃ k : Nat, k ≤ 14 ∧ s = .int .i64 k ∧ Blk wx g #[.int .i64 a, .int .i64 b, .int .i64 (min (a * 2 ^ k) b)] 82 ∧ Below w.heap.size w wx) (fun s _ => 14 - (intOf s).toNat)
      case atStart => exact ⟨0, by omega, rfl, by simpa [Int.min_eq_left h2] using hb, hB⟩
      case round =>
        obtain ⟨k, hk, rfl, hb', hB'⟩ := hrel
        by_cases hlt2 : k < 14
        · have hc2 := hb'.cell 2
          have hf2 := hb'.frozen 2
          have hc1 := hb'.cell 1
          simp only [List.getElem?_toArray, List.getElem?_cons_succ, List.getElem?_cons_zero] at hc1 hc2
          have hp0 : 1 ≤ a * 2 ^ k := pow_lo a k h
          have hp1 : a * 2 ^ k ≤ 16777216 := pow_hi a k (by omega) hlt2
          have HP := Lib.hid ((pow_next a b k).resolve_right (by omega))
          have Hb := Lib.hid hb'
          clear hb'
          have hset := (Hb.out).set 2 (.int .i64 (min (2 * min (a * 2 ^ k) b) b))
          simp only [List.setIfInBounds_toArray, List.set_cons_succ, List.set_cons_zero] at hset
          have HS := Lib.hid hset
          clear hset
          have hBs : Below w.heap.size w (wr.setCell ⟨g, 2, none⟩ (.int .i64 (min (2 * min (a * 2 ^ k) b) b))) := hB'.setCell (by rw [Hg.out]; exact Nat.le_refl _) _
          have HBs := Lib.hid hBs
          clear hBs
          go_wp2_with (first | (go_at_call 13; refine (now_any g _ _ hc2).mono ?_; rintro e w' ⟨rfl, rfl⟩) | (go_at_call 14; refine (next_any g _ b _ hc2 hc1 hf2 (by omega) (by omega)).mono ?_; rintro e w' ⟨rfl, rfl⟩))
          go_roundw
          case rel => exact ⟨k + 1, by omega, by go_num, by rw [← HP.out]; exact HS.out, HBs.out⟩
          case measure => simp [intOf]; omega
        · have hk14 : k = 14 := by omega
          have hc2 := hb'.cell 2
          have hf2 := hb'.frozen 2
          have hc0 := hb'.cell 0
          simp only [List.getElem?_toArray, List.getElem?_cons_succ, List.getElem?_cons_zero] at hc0 hc2
          have hset := hb'.set 2 (.int .i64 a)
          simp only [List.setIfInBounds_toArray, List.set_cons_succ, List.set_cons_zero] at hset
          have HS := Lib.hid hset
          have HBs := Lib.hid (hB'.setCell (p := ⟨g, 2, none⟩) (by rw [Hg.out]; exact Nat.le_refl _) (.int .i64 a))
          clear hset hb' hk14
          go_wp2_with (go_at_call 15; refine (reset_any g a _ _ hc2 hc0 hf2).mono ?_; rintro e w' ⟨rfl, rfl⟩)
          go_roundw
          case rel => exact ⟨i + 1, by omega, by go_num, HS.out, HBs.out⟩
          case measure => simp [intOf]; omega
    · go_wp2
      go_ret
      exact ⟨rfl, hB⟩

theorem grows_no (a b : Int) (w : World) (h : a < 1 ∨ b < a ∨ 1024 < b) :
    Calls Try.prog 7 #[.int .i64 a, .int .i64 b] w fun e w' => e = .returned (.bool true) ∧ Below w.heap.size w w' := by
  by_cases h1 : a < 1
  · go_enter Try.func7, Try.ntmps7
    go_wp2_with (go_at_call 12; refine (new_no _ _ _ (Or.inl h1)).mono ?_; rintro e w' ⟨k, rfl, hk, rfl⟩)
    all_goals
      go_ret
      exact ⟨rfl, Below.refl _ _⟩
  · by_cases h2 : b < a
    · go_enter Try.func7, Try.ntmps7
      go_wp2_with (go_at_call 12; refine (new_no _ _ _ (Or.inr (Or.inl h2))).mono ?_; rintro e w' ⟨k, rfl, hk, rfl⟩)
      all_goals
        go_ret
        exact ⟨rfl, Below.refl _ _⟩
    · have h3 : 1024 < b := by omega
      clear h
      go_enter Try.func7, Try.ntmps7
      go_wp2_with (go_at_call 12; refine (new_no _ _ _ (Or.inr (Or.inr h3))).mono ?_; rintro e w' ⟨k, rfl, hk, rfl⟩)
      all_goals
        go_ret
        exact ⟨rfl, Below.refl _ _⟩
theorem grows_any (a b : Int) (_wa : (Lit.int .i64 a).wf = true) (_wb : (Lit.int .i64 b).wf = true) (w : World) :
    Calls Try.prog 7 #[.int .i64 a, .int .i64 b] w fun e w' => e = .returned (.bool true) ∧ Below w.heap.size w w' := by
  by_cases h : 1 ≤ a ∧ a ≤ b ∧ b ≤ 1024
  · exact grows_yes a b w h.1 h.2.1 h.2.2
  · exact grows_no a b w (by omega)
end Go.Proofs.Ytpaaghbmlenlfaa.Tm
