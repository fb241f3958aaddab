/- SheetsLooks over arguments. -/
import Derived.Test.YtmpkjfengfgagaaBkW1
namespace Go.Proofs.Ytmpkjfengfgagaa.Bk
open Go.RowKit Go.Hp
attribute [local go_sem] min2_lean min_two max2_lean max_two
set_option linter.unusedSimpArgs false
set_option linter.unusedVariables false
set_option maxRecDepth 100000
theorem Try.bytesAc : Try.prog.bytesOf 35 = 80 := by kernel_rfl
theorem looks_arg (n : Int) (x : Value) (at_ : Int) (hn : (Lit.int .i64 n).wf = true) (ha : (Lit.int .i64 at_).wf = true) (w : World) (hx : ArgOk Try.prog w 22 x) :
    Calls Try.prog 3 #[.int .i64 n, x, .int .i64 at_] w fun e w' => e = .returned (.bool true) ∧ Below w.heap.size w w' := by
  obtain ⟨A1, n1, c1, l1, rfl, hn1, hl1, hb1⟩ := ArgOk.slR (R := ActR) Try.underlying22 Try.cellsAc (by omega) Try.bytesAc (fun _ h => ac_open h) hx
  by_cases h : n < 1 ∨ 64 < n
  · exact looks_no n at_ A1 n1 c1 w h
  · obtain ⟨r, rfl⟩ : ∃ r : Nat, n = (r : Int) := ⟨n.toNat, by omega⟩
    exact looks_yes r at_ A1 n1 c1 l1 w (by omega) (by omega) hl1 hn1 (by omega)
end Go.Proofs.Ytmpkjfengfgagaa.Bk
