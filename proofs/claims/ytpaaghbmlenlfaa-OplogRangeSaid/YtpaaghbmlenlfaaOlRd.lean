/- OplogRange over arguments. -/
import Derived.Test.YtpaaghbmlenlfaaOlRb
import Derived.Test.YtpaaghbmlenlfaaOlRe
namespace Go.Proofs.Ytpaaghbmlenlfaa.Ol
open Go.RowKit Go.Hp
attribute [local go_sem] min2_lean min_two max2_lean max_two
set_option linter.unusedSimpArgs false
set_option linter.unusedVariables false
set_option maxRecDepth 100000
theorem range_arg (room : Int) (x y : Value) (hr : (Lit.int .i64 room).wf = true) (w : World) (hx : ArgOk Try.prog w 52 x) (hy : ArgOk Try.prog w 43 y) :
    Calls Try.prog 10 #[.int .i64 room, x, y] w fun e w' => e = .returned (.bool true) ∧ Below w.heap.size w w' := by
  obtain ⟨A1, n1, c1, l1, rfl, hn1, hl1, hb1⟩ := ArgOk.slR (R := EnR) Try.underlying52 Try.cells51 (by omega) Try.bytes51 (fun _ h => en_open h) hx
  obtain ⟨A2, n2, c2, l2, rfl, hn2, hl2, hb2⟩ := ArgOk.slR (R := ActR) Try.underlying43 Try.cells54 (by omega) Try.bytes54 (fun _ h => ac_open h) hy
  by_cases h : room < 1 ∨ 64 < room
  · exact range_no room A1 A2 n1 c1 n2 c2 w h
  · obtain ⟨r, rfl⟩ : ∃ r : Nat, room = (r : Int) := ⟨room.toNat, by omega⟩
    exact range_yes r A1 A2 n1 c1 n2 c2 l1 l2 w (by omega) (by omega) hl1 hn1 hl2 hn2 (by omega) (by omega)
end Go.Proofs.Ytpaaghbmlenlfaa.Ol
