/-
  No cell of these rows narrows 'for every input' (looked for: loops, veiled, ifaces, maps, wideKeys, modest, calm, conditions, laid).
  DERIVED. THE GIVEN ROWS OF THIS SEAT. 9 by the template 'for every input the law returns true; each argument reads behind the call as it read before'; 0 by the template 'total and deterministic' (their statements: YtpaaghbmlenlfaaTotals.lean).
  GIVEN WITH THE SEED: the statements are not yours to turn. If you find one false, say at which input.
  Laid BY PROGRAM, IN A SANDBOX (cutbox-rows.mjs): the forced cells as the released guide's own fill.sh prints them over the translation 6f8c60767b06cd29… (all of the seat's roots in one cut). By AI agents, Wed Nov 11 2026. No macro, syntax, notation, axiom, sorry.
-/
import Derived.Test.YtpaaghbmlenlfaaChecked
import GoSem.Claim
import GoSem.ClaimJoined
import GoSem.ClaimMapViews
import Derived.JoinedTies
import Derived.KernelRfl
namespace Go.Proofs.Ytpaaghbmlenlfaa
/- THE CELL 'sum', in the pinned program and in every row, IS THE sha256 OF THE DUMP (.gsa) THAT YtpaaghbmlenlfaaProg.lean LOADS. Nothing in Lean hashes anything: it is a label: what it is worth is what the hold of that sum in a sandbox is worth. -/
noncomputable def Try.pinned : Pinned := { name := "ytpaaghbmlenlfaa", sum := "6f8c60767b06cd294755afbc63ceb0e98957d0880f9163491c403841615986d8", checked := Try.checked }
namespace Rows
def none {H : Type} : Left H := { results := [], args := [] }

/-- 'flotillalaw03.TimersNames': WHATEVER THE INPUT: true; the input reads as it did. -/
def timersNamesSpec : ChangeSpec := { name := "timersNames", fn := fun _ => fun
  | [] => { results := [.lit (.bool true)], args := [] }
  | _ => none }
def timersNamesRow : OpenClaim := { program := "ytpaaghbmlenlfaa", sum := "6f8c60767b06cd294755afbc63ceb0e98957d0880f9163491c403841615986d8", func := "flotilla/flotillalaw03.TimersNames", spec := "timersNames", apart := false }
def TimersNamesSaid : Prop := timersNamesRow.holds Try.pinned (OpenSpec.ofChange timersNamesSpec)

/-- ITS FALSE NEIGHBOUR: 'it returns false'. Refute it at one input. -/
def timersNamesWrong : ChangeSpec := { name := "timersNames", fn := fun _ => fun
  | [] => { results := [.lit (.bool false)], args := [] }
  | _ => none }
def TimersNamesWrongFalsely : Prop := timersNamesRow.holds Try.pinned (OpenSpec.ofChange timersNamesWrong)

/-- 'flotillalaw20.JudgeNames': WHATEVER THE INPUT: true; the input reads as it did. -/
def judgeNamesSpec : ChangeSpec := { name := "judgeNames", fn := fun _ => fun
  | [] => { results := [.lit (.bool true)], args := [] }
  | _ => none }
def judgeNamesRow : OpenClaim := { program := "ytpaaghbmlenlfaa", sum := "6f8c60767b06cd294755afbc63ceb0e98957d0880f9163491c403841615986d8", func := "flotilla/flotillalaw20.JudgeNames", spec := "judgeNames", apart := false }
def JudgeNamesSaid : Prop := judgeNamesRow.holds Try.pinned (OpenSpec.ofChange judgeNamesSpec)

/-- ITS FALSE NEIGHBOUR: 'it returns false'. Refute it at one input. -/
def judgeNamesWrong : ChangeSpec := { name := "judgeNames", fn := fun _ => fun
  | [] => { results := [.lit (.bool false)], args := [] }
  | _ => none }
def JudgeNamesWrongFalsely : Prop := judgeNamesRow.holds Try.pinned (OpenSpec.ofChange judgeNamesWrong)

/-- 'flotillalaw06.SheetsNames': WHATEVER THE INPUT: true; the input reads as it did. -/
def sheetsNamesSpec : ChangeSpec := { name := "sheetsNames", fn := fun _ => fun
  | [] => { results := [.lit (.bool true)], args := [] }
  | _ => none }
def sheetsNamesRow : OpenClaim := { program := "ytpaaghbmlenlfaa", sum := "6f8c60767b06cd294755afbc63ceb0e98957d0880f9163491c403841615986d8", func := "flotilla/flotillalaw06.SheetsNames", spec := "sheetsNames", apart := false }
def SheetsNamesSaid : Prop := sheetsNamesRow.holds Try.pinned (OpenSpec.ofChange sheetsNamesSpec)

/-- ITS FALSE NEIGHBOUR: 'it returns false'. Refute it at one input. -/
def sheetsNamesWrong : ChangeSpec := { name := "sheetsNames", fn := fun _ => fun
  | [] => { results := [.lit (.bool false)], args := [] }
  | _ => none }
def SheetsNamesWrongFalsely : Prop := sheetsNamesRow.holds Try.pinned (OpenSpec.ofChange sheetsNamesWrong)

/-- 'flotillalaw09.OplogNames': WHATEVER THE INPUT: true; the input reads as it did. -/
def oplogNamesSpec : ChangeSpec := { name := "oplogNames", fn := fun _ => fun
  | [] => { results := [.lit (.bool true)], args := [] }
  | _ => none }
def oplogNamesRow : OpenClaim := { program := "ytpaaghbmlenlfaa", sum := "6f8c60767b06cd294755afbc63ceb0e98957d0880f9163491c403841615986d8", func := "flotilla/flotillalaw09.OplogNames", spec := "oplogNames", apart := false }
def OplogNamesSaid : Prop := oplogNamesRow.holds Try.pinned (OpenSpec.ofChange oplogNamesSpec)

/-- ITS FALSE NEIGHBOUR: 'it returns false'. Refute it at one input. -/
def oplogNamesWrong : ChangeSpec := { name := "oplogNames", fn := fun _ => fun
  | [] => { results := [.lit (.bool false)], args := [] }
  | _ => none }
def OplogNamesWrongFalsely : Prop := oplogNamesRow.holds Try.pinned (OpenSpec.ofChange oplogNamesWrong)

/-- 'flotillalaw03.TimersGrows': WHATEVER THE INPUT: true; the input reads as it did. -/
def timersGrowsSpec : ChangeSpec := { name := "timersGrows", fn := fun _ => fun
  | [d1, d2] => { results := [.lit (.bool true)], args := [d1, d2] }
  | _ => none }
def timersGrowsRow : OpenClaim := { program := "ytpaaghbmlenlfaa", sum := "6f8c60767b06cd294755afbc63ceb0e98957d0880f9163491c403841615986d8", func := "flotilla/flotillalaw03.TimersGrows", spec := "timersGrows", apart := false }
def TimersGrowsSaid : Prop := timersGrowsRow.holds Try.pinned (OpenSpec.ofChange timersGrowsSpec)

/-- ITS FALSE NEIGHBOUR: 'it returns false'. Refute it at one input. -/
def timersGrowsWrong : ChangeSpec := { name := "timersGrows", fn := fun _ => fun
  | [d1, d2] => { results := [.lit (.bool false)], args := [d1, d2] }
  | _ => none }
def TimersGrowsWrongFalsely : Prop := timersGrowsRow.holds Try.pinned (OpenSpec.ofChange timersGrowsWrong)

/-- 'flotillalaw03.TimersPatience': WHATEVER THE INPUT: true; the input reads as it did. -/
def timersPatienceSpec : ChangeSpec := { name := "timersPatience", fn := fun _ => fun
  | [d1, d2, d3] => { results := [.lit (.bool true)], args := [d1, d2, d3] }
  | _ => none }
def timersPatienceRow : OpenClaim := { program := "ytpaaghbmlenlfaa", sum := "6f8c60767b06cd294755afbc63ceb0e98957d0880f9163491c403841615986d8", func := "flotilla/flotillalaw03.TimersPatience", spec := "timersPatience", apart := false }
def TimersPatienceSaid : Prop := timersPatienceRow.holds Try.pinned (OpenSpec.ofChange timersPatienceSpec)

/-- ITS FALSE NEIGHBOUR: 'it returns false'. Refute it at one input. -/
def timersPatienceWrong : ChangeSpec := { name := "timersPatience", fn := fun _ => fun
  | [d1, d2, d3] => { results := [.lit (.bool false)], args := [d1, d2, d3] }
  | _ => none }
def TimersPatienceWrongFalsely : Prop := timersPatienceRow.holds Try.pinned (OpenSpec.ofChange timersPatienceWrong)

/-- 'flotillalaw09.OplogStays': WHATEVER THE INPUT: true; the input reads as it did. -/
def oplogStaysSpec : ChangeSpec := { name := "oplogStays", fn := fun _ => fun
  | [d1, d2] => { results := [.lit (.bool true)], args := [d1, d2] }
  | _ => none }
def oplogStaysRow : OpenClaim := { program := "ytpaaghbmlenlfaa", sum := "6f8c60767b06cd294755afbc63ceb0e98957d0880f9163491c403841615986d8", func := "flotilla/flotillalaw09.OplogStays", spec := "oplogStays", apart := false }
def OplogStaysSaid : Prop := oplogStaysRow.holds Try.pinned (OpenSpec.ofChange oplogStaysSpec)

/-- ITS FALSE NEIGHBOUR: 'it returns false'. Refute it at one input. -/
def oplogStaysWrong : ChangeSpec := { name := "oplogStays", fn := fun _ => fun
  | [d1, d2] => { results := [.lit (.bool false)], args := [d1, d2] }
  | _ => none }
def OplogStaysWrongFalsely : Prop := oplogStaysRow.holds Try.pinned (OpenSpec.ofChange oplogStaysWrong)

/-- 'flotillalaw09.OplogRange': WHATEVER THE INPUT: true; the input reads as it did. -/
def oplogRangeSpec : ChangeSpec := { name := "oplogRange", fn := fun _ => fun
  | [d1, d2, d3] => { results := [.lit (.bool true)], args := [d1, d2, d3] }
  | _ => none }
def oplogRangeRow : OpenClaim := { program := "ytpaaghbmlenlfaa", sum := "6f8c60767b06cd294755afbc63ceb0e98957d0880f9163491c403841615986d8", func := "flotilla/flotillalaw09.OplogRange", spec := "oplogRange", unfollowed := true, recurses := true, apart := false }
def OplogRangeSaid : Prop := oplogRangeRow.holds Try.pinned (OpenSpec.ofChange oplogRangeSpec)

/-- ITS FALSE NEIGHBOUR: 'it returns false'. Refute it at one input. -/
def oplogRangeWrong : ChangeSpec := { name := "oplogRange", fn := fun _ => fun
  | [d1, d2, d3] => { results := [.lit (.bool false)], args := [d1, d2, d3] }
  | _ => none }
def OplogRangeWrongFalsely : Prop := oplogRangeRow.holds Try.pinned (OpenSpec.ofChange oplogRangeWrong)

/-- 'flotillalaw09.OplogScript': WHATEVER THE INPUT: true; the input reads as it did. -/
def oplogScriptSpec : ChangeSpec := { name := "oplogScript", fn := fun _ => fun
  | [d1, d2] => { results := [.lit (.bool true)], args := [d1, d2] }
  | _ => none }
def oplogScriptRow : OpenClaim := { program := "ytpaaghbmlenlfaa", sum := "6f8c60767b06cd294755afbc63ceb0e98957d0880f9163491c403841615986d8", func := "flotilla/flotillalaw09.OplogScript", spec := "oplogScript", unfollowed := true, recurses := true, apart := false }
def OplogScriptSaid : Prop := oplogScriptRow.holds Try.pinned (OpenSpec.ofChange oplogScriptSpec)

/-- ITS FALSE NEIGHBOUR: 'it returns false'. Refute it at one input. -/
def oplogScriptWrong : ChangeSpec := { name := "oplogScript", fn := fun _ => fun
  | [d1, d2] => { results := [.lit (.bool false)], args := [d1, d2] }
  | _ => none }
def OplogScriptWrongFalsely : Prop := oplogScriptRow.holds Try.pinned (OpenSpec.ofChange oplogScriptWrong)

/- THE SECOND FORM. 'bulk': how many values and letters a reading holds, each counted each time it is reached (what is shared counts as often as it is met; a slice's spare places count too). A statement '..UptoSaid' is the law's where the arguments, and the package variables that the reading takes, are together of bulk at most 1048576: NARROWER than '..Said'. Prove '..Said' where nothing that the law and all that it calls make is longer than what came in: it says more and counts as full. Else prove '..UptoSaid'. A law counts once. -/
mutual
def uptoBulk {H : Type} : DataW H → Nat
  | .lit (.string bytes) => bytes.length + 1
  | .lit _ => 1
  | .nil => 1
  | .ptr d => uptoBulk d + 1
  | .slice elems spare => uptoBulkAll elems + uptoBulkAll spare + 1
  | .agg parts => uptoBulkAll parts + 1
  | .iface _ d => uptoBulk d + 1
  | .map entries => uptoBulkEntries entries + 1
  | .held _ => 1
def uptoBulkAll {H : Type} : List (DataW H) → Nat
  | [] => 0
  | d :: r => uptoBulk d + uptoBulkAll r
def uptoBulkEntries {H : Type} : List (Lit × DataW H) → Nat
  | [] => 0
  | x :: r => uptoBulkEntry x + uptoBulkEntries r
def uptoBulkEntry {H : Type} : Lit × DataW H → Nat
  | (.string bytes, d) => bytes.length + uptoBulk d + 1
  | (_, d) => uptoBulk d + 1
 end
def uptoSmall : (H : Type) → List (DataW H) → Bool := fun _ ds => decide (uptoBulkAll ds ≤ 1048576)
def OpenSpec.upto (s : _root_.Go.ChangeSpec) : _root_.Go.OpenSpec := { _root_.Go.OpenSpec.ofChange s with cond := some uptoSmall }

/-- 'flotillalaw03.TimersNames', WHERE WHAT IT READS IS OF BULK AT MOST 1048576: true; the input reads as it did. -/
def timersNamesUptoRow : OpenClaim := { program := "ytpaaghbmlenlfaa", sum := "6f8c60767b06cd294755afbc63ceb0e98957d0880f9163491c403841615986d8", func := "flotilla/flotillalaw03.TimersNames", spec := "timersNames", apart := false, narrowed := true }
def TimersNamesUptoSaid : Prop := timersNamesUptoRow.holds Try.pinned (OpenSpec.upto timersNamesSpec)

/-- 'flotillalaw20.JudgeNames', WHERE WHAT IT READS IS OF BULK AT MOST 1048576: true; the input reads as it did. -/
def judgeNamesUptoRow : OpenClaim := { program := "ytpaaghbmlenlfaa", sum := "6f8c60767b06cd294755afbc63ceb0e98957d0880f9163491c403841615986d8", func := "flotilla/flotillalaw20.JudgeNames", spec := "judgeNames", apart := false, narrowed := true }
def JudgeNamesUptoSaid : Prop := judgeNamesUptoRow.holds Try.pinned (OpenSpec.upto judgeNamesSpec)

/-- 'flotillalaw06.SheetsNames', WHERE WHAT IT READS IS OF BULK AT MOST 1048576: true; the input reads as it did. -/
def sheetsNamesUptoRow : OpenClaim := { program := "ytpaaghbmlenlfaa", sum := "6f8c60767b06cd294755afbc63ceb0e98957d0880f9163491c403841615986d8", func := "flotilla/flotillalaw06.SheetsNames", spec := "sheetsNames", apart := false, narrowed := true }
def SheetsNamesUptoSaid : Prop := sheetsNamesUptoRow.holds Try.pinned (OpenSpec.upto sheetsNamesSpec)

/-- 'flotillalaw09.OplogNames', WHERE WHAT IT READS IS OF BULK AT MOST 1048576: true; the input reads as it did. -/
def oplogNamesUptoRow : OpenClaim := { program := "ytpaaghbmlenlfaa", sum := "6f8c60767b06cd294755afbc63ceb0e98957d0880f9163491c403841615986d8", func := "flotilla/flotillalaw09.OplogNames", spec := "oplogNames", apart := false, narrowed := true }
def OplogNamesUptoSaid : Prop := oplogNamesUptoRow.holds Try.pinned (OpenSpec.upto oplogNamesSpec)

/-- 'flotillalaw03.TimersGrows', WHERE WHAT IT READS IS OF BULK AT MOST 1048576: true; the input reads as it did. -/
def timersGrowsUptoRow : OpenClaim := { program := "ytpaaghbmlenlfaa", sum := "6f8c60767b06cd294755afbc63ceb0e98957d0880f9163491c403841615986d8", func := "flotilla/flotillalaw03.TimersGrows", spec := "timersGrows", apart := false, narrowed := true }
def TimersGrowsUptoSaid : Prop := timersGrowsUptoRow.holds Try.pinned (OpenSpec.upto timersGrowsSpec)

/-- 'flotillalaw03.TimersPatience', WHERE WHAT IT READS IS OF BULK AT MOST 1048576: true; the input reads as it did. -/
def timersPatienceUptoRow : OpenClaim := { program := "ytpaaghbmlenlfaa", sum := "6f8c60767b06cd294755afbc63ceb0e98957d0880f9163491c403841615986d8", func := "flotilla/flotillalaw03.TimersPatience", spec := "timersPatience", apart := false, narrowed := true }
def TimersPatienceUptoSaid : Prop := timersPatienceUptoRow.holds Try.pinned (OpenSpec.upto timersPatienceSpec)

/-- 'flotillalaw09.OplogStays', WHERE WHAT IT READS IS OF BULK AT MOST 1048576: true; the input reads as it did. -/
def oplogStaysUptoRow : OpenClaim := { program := "ytpaaghbmlenlfaa", sum := "6f8c60767b06cd294755afbc63ceb0e98957d0880f9163491c403841615986d8", func := "flotilla/flotillalaw09.OplogStays", spec := "oplogStays", apart := false, narrowed := true }
def OplogStaysUptoSaid : Prop := oplogStaysUptoRow.holds Try.pinned (OpenSpec.upto oplogStaysSpec)

/-- 'flotillalaw09.OplogRange', WHERE WHAT IT READS IS OF BULK AT MOST 1048576: true; the input reads as it did. -/
def oplogRangeUptoRow : OpenClaim := { program := "ytpaaghbmlenlfaa", sum := "6f8c60767b06cd294755afbc63ceb0e98957d0880f9163491c403841615986d8", func := "flotilla/flotillalaw09.OplogRange", spec := "oplogRange", unfollowed := true, recurses := true, apart := false, narrowed := true }
def OplogRangeUptoSaid : Prop := oplogRangeUptoRow.holds Try.pinned (OpenSpec.upto oplogRangeSpec)

/-- 'flotillalaw09.OplogScript', WHERE WHAT IT READS IS OF BULK AT MOST 1048576: true; the input reads as it did. -/
def oplogScriptUptoRow : OpenClaim := { program := "ytpaaghbmlenlfaa", sum := "6f8c60767b06cd294755afbc63ceb0e98957d0880f9163491c403841615986d8", func := "flotilla/flotillalaw09.OplogScript", spec := "oplogScript", unfollowed := true, recurses := true, apart := false, narrowed := true }
def OplogScriptUptoSaid : Prop := oplogScriptUptoRow.holds Try.pinned (OpenSpec.upto oplogScriptSpec)

end Rows
end Go.Proofs.Ytpaaghbmlenlfaa
