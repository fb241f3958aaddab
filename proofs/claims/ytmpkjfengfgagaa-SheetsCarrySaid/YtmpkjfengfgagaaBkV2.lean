/- SheetsCarry over arguments. -/
import Derived.Test.YtmpkjfengfgagaaBkW2
import Derived.Test.YtmpkjfengfgagaaBkV1
namespace Go.Proofs.Ytmpkjfengfgagaa.Bk
open Go.RowKit Go.Hp
attribute [local go_sem] min2_lean min_two max2_lean max_two
set_option linter.unusedSimpArgs false
set_option linter.unusedVariables false
set_option maxRecDepth 100000
theorem carry_arg (n : Int) (x y : Value) (hn : (Lit.int .i64 n).wf = true) (w : World) (hx : ArgOk Try.prog w 22 x) (hy : ArgOk Try.prog w 22 y) :
    Calls Try.prog 5 #[.int .i64 n, x, y] w fun e w' => e = .returned (.bool true) ∧ Below w.heap.size w w' := by
  obtain ⟨A1, n1, c1, l1, rfl, hn1, hl1, hb1⟩ := ArgOk.slR (R := ActR) Try.underlying22 Try.cellsAc (by omega) Try.bytesAc (fun _ h => ac_open h) hx
  obtain ⟨A2, n2, c2, l2, rfl, hn2, hl2, hb2⟩ := ArgOk.slR (R := ActR) Try.underlying22 Try.cellsAc (by omega) Try.bytesAc (fun _ h => ac_open h) hy
  by_cases h : n < 1 ∨ 64 < n
  · exact carry_no n A1 n1 c1 A2 n2 c2 w h
  · obtain ⟨r, rfl⟩ : ∃ r : Nat, n = (r : Int) := ⟨n.toNat, by omega⟩
    exact carry_yes r A1 n1 c1 l1 A2 n2 c2 l2 w (by omega) (by omega) hl1 hn1 (by omega) hl2 hn2 (by omega)
end Go.Proofs.Ytmpkjfengfgagaa.Bk
