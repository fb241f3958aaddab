/- Tables whose names are floats: nothing is sorted. -/
import Derived.Test.YtmpkjfengfgagaaTmNf
namespace Go.Proofs.Ytmpkjfengfgagaa.Tn
open Go.RowKit Go.Hp
attribute [local go_sem] min2_lean min_two max2_lean max_two
set_option linter.unusedSimpArgs false
set_option linter.unusedVariables false
set_option maxRecDepth 100000
theorem ins_nil (w : World) : Calls Try.prog 150 #[.slice none 0 0, .int .i64 0, .int .i64 0] w fun e w' => e = .returned (.tuple #[]) ∧ w' = w := by
  go_enter Try.func150, Try.ntmps150
  go_wp2_with fail
  go_loopw [6] (fun x6 wr => x6 = .int .i64 1 ∧ wr = w) (fun _ _ => 0)
  case atStart => exact ⟨rfl, rfl⟩
  case round =>
    obtain ⟨rfl, rfl⟩ := hrel
    go_wp2_with fail
    exact bodyPost_end (results_none rfl _ _ _) rfl ⟨rfl, rfl⟩
theorem pdq_nil (L : Int) (w : World) : Calls Try.prog 127 #[.slice none 0 0, .int .i64 0, .int .i64 0, .int .i64 L] w fun e w' => e = .returned (.tuple #[]) ∧ w' = w := by
  go_enter Try.func127, Try.ntmps127
  go_wp2_with fail
  go_loopw [1, 2] (fun x1 x2 wr => x1 = .int .i64 0 ∧ x2 = .int .i64 0 ∧ wr = w) (fun _ _ _ => 0)
  case atStart => exact ⟨rfl, rfl, rfl⟩
  case round =>
    obtain ⟨rfl, rfl, rfl⟩ := hrel
    go_wp2_with (first
      | (go_at_call 150; (with_reducible refine (ins_nil _).mono ?_); rintro r w1 ⟨rfl, rfl⟩))
    exact bodyPost_ret (results_none rfl _ _ _) rfl ⟨rfl, rfl⟩
theorem sort_nil (w : World) : Calls Try.prog 108 #[.slice none 0 0] w fun e w' => e = .returned (.tuple #[]) ∧ w' = w := by
  have HB := Try.bits_Len 0
  go_enter Try.func108, Try.ntmps108
  go_wp2_with (first
    | (go_at_call 127; (with_reducible refine (pdq_nil _ _).mono ?_); rintro r w1 ⟨rfl, rfl⟩)
    | (go_at_call 115; refine (HB _ (by omega) (by omega)).mono ?_; rintro r w1 ⟨rfl, rfl⟩))
  exact bodyPost_end (results_none rfl _ _ _) rfl ⟨rfl, rfl⟩
end Go.Proofs.Ytmpkjfengfgagaa.Tn
