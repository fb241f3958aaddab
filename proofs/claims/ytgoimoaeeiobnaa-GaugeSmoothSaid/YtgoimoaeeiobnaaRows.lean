/-
  No cell of these rows narrows 'for every input' (looked for: loops, veiled, ifaces, maps, wideKeys, modest, calm, conditions, laid).
  DERIVED. THE GIVEN ROWS OF THIS SEAT. 10 by the template 'for every input the law returns true; each argument reads behind the call as it read before'; 0 by the template 'total and deterministic' (their statements: YtgoimoaeeiobnaaTotals.lean).
  GIVEN WITH THE SEED: the statements are not yours to turn. If you find one false, say at which input.
  Laid BY PROGRAM, IN A SANDBOX (cutbox-rows.mjs): the forced cells as the released guide's own fill.sh prints them over the translation 88b69189b55f6c2b… (all of the seat's roots in one cut). By AI agents, Wed Nov 11 2026. No macro, syntax, notation, axiom, sorry.
-/
import Derived.Test.YtgoimoaeeiobnaaChecked
import GoSem.Claim
import GoSem.ClaimJoined
import GoSem.ClaimMapViews
import Derived.JoinedTies
import Derived.KernelRfl
namespace Go.Proofs.Ytgoimoaeeiobnaa
/- THE CELL 'sum', in the pinned program and in every row, IS THE sha256 OF THE DUMP (.gsa) THAT YtgoimoaeeiobnaaProg.lean LOADS. Nothing in Lean hashes anything: it is a label: what it is worth is what the hold of that sum in a sandbox is worth. -/
noncomputable def Try.pinned : Pinned := { name := "ytgoimoaeeiobnaa", sum := "88b69189b55f6c2b65f32798573f984c0626c7ed3c2158830f4f712777798e7b", checked := Try.checked }
namespace Rows
def none {H : Type} : Left H := { results := [], args := [] }

/-- 'flotillalaw22.GaugeOf': WHATEVER THE INPUT: true; the input reads as it did. -/
def gaugeOfSpec : ChangeSpec := { name := "gaugeOf", fn := fun _ => fun
  | [d1, d2] => { results := [.lit (.bool true)], args := [d1, d2] }
  | _ => none }
def gaugeOfRow : OpenClaim := { program := "ytgoimoaeeiobnaa", sum := "88b69189b55f6c2b65f32798573f984c0626c7ed3c2158830f4f712777798e7b", func := "flotilla/flotillalaw22.GaugeOf", spec := "gaugeOf", inPlace := ["math.sqrt"], unfollowed := true, recurses := true, plainKeys := false, apart := false }
def GaugeOfSaid : Prop := gaugeOfRow.holds Try.pinned (OpenSpec.ofChange gaugeOfSpec)

/-- ITS FALSE NEIGHBOUR: 'it returns false'. Refute it at one input. -/
def gaugeOfWrong : ChangeSpec := { name := "gaugeOf", fn := fun _ => fun
  | [d1, d2] => { results := [.lit (.bool false)], args := [d1, d2] }
  | _ => none }
def GaugeOfWrongFalsely : Prop := gaugeOfRow.holds Try.pinned (OpenSpec.ofChange gaugeOfWrong)

/-- 'flotillalaw22.GaugeShare': WHATEVER THE INPUT: true; the input reads as it did. -/
def gaugeShareSpec : ChangeSpec := { name := "gaugeShare", fn := fun _ => fun
  | [d1, d2] => { results := [.lit (.bool true)], args := [d1, d2] }
  | _ => none }
def gaugeShareRow : OpenClaim := { program := "ytgoimoaeeiobnaa", sum := "88b69189b55f6c2b65f32798573f984c0626c7ed3c2158830f4f712777798e7b", func := "flotilla/flotillalaw22.GaugeShare", spec := "gaugeShare", inPlace := ["math.sqrt"], unfollowed := true, recurses := true, plainKeys := false, apart := false }
def GaugeShareSaid : Prop := gaugeShareRow.holds Try.pinned (OpenSpec.ofChange gaugeShareSpec)

/-- ITS FALSE NEIGHBOUR: 'it returns false'. Refute it at one input. -/
def gaugeShareWrong : ChangeSpec := { name := "gaugeShare", fn := fun _ => fun
  | [d1, d2] => { results := [.lit (.bool false)], args := [d1, d2] }
  | _ => none }
def GaugeShareWrongFalsely : Prop := gaugeShareRow.holds Try.pinned (OpenSpec.ofChange gaugeShareWrong)

/-- 'flotillalaw22.GaugeBars': WHATEVER THE INPUT: true; the input reads as it did. -/
def gaugeBarsSpec : ChangeSpec := { name := "gaugeBars", fn := fun _ => fun
  | [d1, d2] => { results := [.lit (.bool true)], args := [d1, d2] }
  | _ => none }
def gaugeBarsRow : OpenClaim := { program := "ytgoimoaeeiobnaa", sum := "88b69189b55f6c2b65f32798573f984c0626c7ed3c2158830f4f712777798e7b", func := "flotilla/flotillalaw22.GaugeBars", spec := "gaugeBars", inPlace := ["math.sqrt"], unfollowed := true, recurses := true, plainKeys := false, apart := false }
def GaugeBarsSaid : Prop := gaugeBarsRow.holds Try.pinned (OpenSpec.ofChange gaugeBarsSpec)

/-- ITS FALSE NEIGHBOUR: 'it returns false'. Refute it at one input. -/
def gaugeBarsWrong : ChangeSpec := { name := "gaugeBars", fn := fun _ => fun
  | [d1, d2] => { results := [.lit (.bool false)], args := [d1, d2] }
  | _ => none }
def GaugeBarsWrongFalsely : Prop := gaugeBarsRow.holds Try.pinned (OpenSpec.ofChange gaugeBarsWrong)

/-- 'flotillalaw22.GaugeAdds': WHATEVER THE INPUT: true; the input reads as it did. -/
def gaugeAddsSpec : ChangeSpec := { name := "gaugeAdds", fn := fun _ => fun
  | [d1, d2] => { results := [.lit (.bool true)], args := [d1, d2] }
  | _ => none }
def gaugeAddsRow : OpenClaim := { program := "ytgoimoaeeiobnaa", sum := "88b69189b55f6c2b65f32798573f984c0626c7ed3c2158830f4f712777798e7b", func := "flotilla/flotillalaw22.GaugeAdds", spec := "gaugeAdds", inPlace := ["math.sqrt"], unfollowed := true, recurses := true, plainKeys := false, apart := false }
def GaugeAddsSaid : Prop := gaugeAddsRow.holds Try.pinned (OpenSpec.ofChange gaugeAddsSpec)

/-- ITS FALSE NEIGHBOUR: 'it returns false'. Refute it at one input. -/
def gaugeAddsWrong : ChangeSpec := { name := "gaugeAdds", fn := fun _ => fun
  | [d1, d2] => { results := [.lit (.bool false)], args := [d1, d2] }
  | _ => none }
def GaugeAddsWrongFalsely : Prop := gaugeAddsRow.holds Try.pinned (OpenSpec.ofChange gaugeAddsWrong)

/-- 'flotillalaw22.GaugeRises': WHATEVER THE INPUT: true; the input reads as it did. -/
def gaugeRisesSpec : ChangeSpec := { name := "gaugeRises", fn := fun _ => fun
  | [d1, d2, d3] => { results := [.lit (.bool true)], args := [d1, d2, d3] }
  | _ => none }
def gaugeRisesRow : OpenClaim := { program := "ytgoimoaeeiobnaa", sum := "88b69189b55f6c2b65f32798573f984c0626c7ed3c2158830f4f712777798e7b", func := "flotilla/flotillalaw22.GaugeRises", spec := "gaugeRises", inPlace := ["math.sqrt"], unfollowed := true, recurses := true, plainKeys := false, apart := false }
def GaugeRisesSaid : Prop := gaugeRisesRow.holds Try.pinned (OpenSpec.ofChange gaugeRisesSpec)

/-- ITS FALSE NEIGHBOUR: 'it returns false'. Refute it at one input. -/
def gaugeRisesWrong : ChangeSpec := { name := "gaugeRises", fn := fun _ => fun
  | [d1, d2, d3] => { results := [.lit (.bool false)], args := [d1, d2, d3] }
  | _ => none }
def GaugeRisesWrongFalsely : Prop := gaugeRisesRow.holds Try.pinned (OpenSpec.ofChange gaugeRisesWrong)

/-- 'flotillalaw22.GaugeOrder': WHATEVER THE INPUT: true; the input reads as it did. -/
def gaugeOrderSpec : ChangeSpec := { name := "gaugeOrder", fn := fun _ => fun
  | [d1, d2, d3] => { results := [.lit (.bool true)], args := [d1, d2, d3] }
  | _ => none }
def gaugeOrderRow : OpenClaim := { program := "ytgoimoaeeiobnaa", sum := "88b69189b55f6c2b65f32798573f984c0626c7ed3c2158830f4f712777798e7b", func := "flotilla/flotillalaw22.GaugeOrder", spec := "gaugeOrder", inPlace := ["math.sqrt"], unfollowed := true, recurses := true, plainKeys := false, apart := false }
def GaugeOrderSaid : Prop := gaugeOrderRow.holds Try.pinned (OpenSpec.ofChange gaugeOrderSpec)

/-- ITS FALSE NEIGHBOUR: 'it returns false'. Refute it at one input. -/
def gaugeOrderWrong : ChangeSpec := { name := "gaugeOrder", fn := fun _ => fun
  | [d1, d2, d3] => { results := [.lit (.bool false)], args := [d1, d2, d3] }
  | _ => none }
def GaugeOrderWrongFalsely : Prop := gaugeOrderRow.holds Try.pinned (OpenSpec.ofChange gaugeOrderWrong)

/-- 'flotillalaw22.GaugeSmooth': WHATEVER THE INPUT: true; the input reads as it did. -/
def gaugeSmoothSpec : ChangeSpec := { name := "gaugeSmooth", fn := fun _ => fun
  | [d1, d2] => { results := [.lit (.bool true)], args := [d1, d2] }
  | _ => none }
def gaugeSmoothRow : OpenClaim := { program := "ytgoimoaeeiobnaa", sum := "88b69189b55f6c2b65f32798573f984c0626c7ed3c2158830f4f712777798e7b", func := "flotilla/flotillalaw22.GaugeSmooth", spec := "gaugeSmooth", inPlace := ["math.sqrt"], unfollowed := true, recurses := true, plainKeys := false, apart := false }
def GaugeSmoothSaid : Prop := gaugeSmoothRow.holds Try.pinned (OpenSpec.ofChange gaugeSmoothSpec)

/-- ITS FALSE NEIGHBOUR: 'it returns false'. Refute it at one input. -/
def gaugeSmoothWrong : ChangeSpec := { name := "gaugeSmooth", fn := fun _ => fun
  | [d1, d2] => { results := [.lit (.bool false)], args := [d1, d2] }
  | _ => none }
def GaugeSmoothWrongFalsely : Prop := gaugeSmoothRow.holds Try.pinned (OpenSpec.ofChange gaugeSmoothWrong)

/-- 'flotillalaw22.GaugeFlat': WHATEVER THE INPUT: true; the input reads as it did. -/
def gaugeFlatSpec : ChangeSpec := { name := "gaugeFlat", fn := fun _ => fun
  | [d1, d2, d3] => { results := [.lit (.bool true)], args := [d1, d2, d3] }
  | _ => none }
def gaugeFlatRow : OpenClaim := { program := "ytgoimoaeeiobnaa", sum := "88b69189b55f6c2b65f32798573f984c0626c7ed3c2158830f4f712777798e7b", func := "flotilla/flotillalaw22.GaugeFlat", spec := "gaugeFlat", inPlace := ["math.sqrt"], unfollowed := true, recurses := true, plainKeys := false, apart := false }
def GaugeFlatSaid : Prop := gaugeFlatRow.holds Try.pinned (OpenSpec.ofChange gaugeFlatSpec)

/-- ITS FALSE NEIGHBOUR: 'it returns false'. Refute it at one input. -/
def gaugeFlatWrong : ChangeSpec := { name := "gaugeFlat", fn := fun _ => fun
  | [d1, d2, d3] => { results := [.lit (.bool false)], args := [d1, d2, d3] }
  | _ => none }
def GaugeFlatWrongFalsely : Prop := gaugeFlatRow.holds Try.pinned (OpenSpec.ofChange gaugeFlatWrong)

/-- 'flotillalaw22.GaugeWhole': WHATEVER THE INPUT: true; the input reads as it did. -/
def gaugeWholeSpec : ChangeSpec := { name := "gaugeWhole", fn := fun _ => fun
  | [d] => { results := [.lit (.bool true)], args := [d] }
  | _ => none }
def gaugeWholeRow : OpenClaim := { program := "ytgoimoaeeiobnaa", sum := "88b69189b55f6c2b65f32798573f984c0626c7ed3c2158830f4f712777798e7b", func := "flotilla/flotillalaw22.GaugeWhole", spec := "gaugeWhole", inPlace := ["math.sqrt"], unfollowed := true, recurses := true, plainKeys := false, apart := false }
def GaugeWholeSaid : Prop := gaugeWholeRow.holds Try.pinned (OpenSpec.ofChange gaugeWholeSpec)

/-- ITS FALSE NEIGHBOUR: 'it returns false'. Refute it at one input. -/
def gaugeWholeWrong : ChangeSpec := { name := "gaugeWhole", fn := fun _ => fun
  | [d] => { results := [.lit (.bool false)], args := [d] }
  | _ => none }
def GaugeWholeWrongFalsely : Prop := gaugeWholeRow.holds Try.pinned (OpenSpec.ofChange gaugeWholeWrong)

/-- 'flotillalaw22.GaugeWaits': WHATEVER THE INPUT: true; the input reads as it did. -/
def gaugeWaitsSpec : ChangeSpec := { name := "gaugeWaits", fn := fun _ => fun
  | [d] => { results := [.lit (.bool true)], args := [d] }
  | _ => none }
def gaugeWaitsRow : OpenClaim := { program := "ytgoimoaeeiobnaa", sum := "88b69189b55f6c2b65f32798573f984c0626c7ed3c2158830f4f712777798e7b", func := "flotilla/flotillalaw22.GaugeWaits", spec := "gaugeWaits", inPlace := ["math.sqrt"], unfollowed := true, recurses := true, plainKeys := false, apart := false }
def GaugeWaitsSaid : Prop := gaugeWaitsRow.holds Try.pinned (OpenSpec.ofChange gaugeWaitsSpec)

/-- ITS FALSE NEIGHBOUR: 'it returns false'. Refute it at one input. -/
def gaugeWaitsWrong : ChangeSpec := { name := "gaugeWaits", fn := fun _ => fun
  | [d] => { results := [.lit (.bool false)], args := [d] }
  | _ => none }
def GaugeWaitsWrongFalsely : Prop := gaugeWaitsRow.holds Try.pinned (OpenSpec.ofChange gaugeWaitsWrong)

/- THE SECOND FORM. 'bulk': how many values and letters a reading holds, each counted each time it is reached (what is shared counts as often as it is met; a slice's spare places count too). A statement '..UptoSaid' is the law's where the arguments, and the package variables that the reading takes, are together of bulk at most 1048576: NARROWER than '..Said'. Prove '..Said' where nothing that the law and all that it calls make is longer than what came in: it says more and counts as full. Else prove '..UptoSaid'. A law counts once. -/
mutual
def uptoBulk {H : Type} : DataW H → Nat
  | .lit (.string bytes) => bytes.length + 1
  | .lit _ => 1
  | .nil => 1
  | .ptr d => uptoBulk d + 1
  | .slice elems spare => uptoBulkAll elems + uptoBulkAll spare + 1
  | .agg parts => uptoBulkAll parts + 1
  | .iface _ d => uptoBulk d + 1
  | .map entries => uptoBulkEntries entries + 1
  | .held _ => 1
def uptoBulkAll {H : Type} : List (DataW H) → Nat
  | [] => 0
  | d :: r => uptoBulk d + uptoBulkAll r
def uptoBulkEntries {H : Type} : List (Lit × DataW H) → Nat
  | [] => 0
  | x :: r => uptoBulkEntry x + uptoBulkEntries r
def uptoBulkEntry {H : Type} : Lit × DataW H → Nat
  | (.string bytes, d) => bytes.length + uptoBulk d + 1
  | (_, d) => uptoBulk d + 1
 end
def uptoSmall : (H : Type) → List (DataW H) → Bool := fun _ ds => decide (uptoBulkAll ds ≤ 1048576)
def OpenSpec.upto (s : _root_.Go.ChangeSpec) : _root_.Go.OpenSpec := { _root_.Go.OpenSpec.ofChange s with cond := some uptoSmall }

/-- 'flotillalaw22.GaugeOf', WHERE WHAT IT READS IS OF BULK AT MOST 1048576: true; the input reads as it did. -/
def gaugeOfUptoRow : OpenClaim := { program := "ytgoimoaeeiobnaa", sum := "88b69189b55f6c2b65f32798573f984c0626c7ed3c2158830f4f712777798e7b", func := "flotilla/flotillalaw22.GaugeOf", spec := "gaugeOf", inPlace := ["math.sqrt"], unfollowed := true, recurses := true, plainKeys := false, apart := false, narrowed := true }
def GaugeOfUptoSaid : Prop := gaugeOfUptoRow.holds Try.pinned (OpenSpec.upto gaugeOfSpec)

/-- 'flotillalaw22.GaugeShare', WHERE WHAT IT READS IS OF BULK AT MOST 1048576: true; the input reads as it did. -/
def gaugeShareUptoRow : OpenClaim := { program := "ytgoimoaeeiobnaa", sum := "88b69189b55f6c2b65f32798573f984c0626c7ed3c2158830f4f712777798e7b", func := "flotilla/flotillalaw22.GaugeShare", spec := "gaugeShare", inPlace := ["math.sqrt"], unfollowed := true, recurses := true, plainKeys := false, apart := false, narrowed := true }
def GaugeShareUptoSaid : Prop := gaugeShareUptoRow.holds Try.pinned (OpenSpec.upto gaugeShareSpec)

/-- 'flotillalaw22.GaugeBars', WHERE WHAT IT READS IS OF BULK AT MOST 1048576: true; the input reads as it did. -/
def gaugeBarsUptoRow : OpenClaim := { program := "ytgoimoaeeiobnaa", sum := "88b69189b55f6c2b65f32798573f984c0626c7ed3c2158830f4f712777798e7b", func := "flotilla/flotillalaw22.GaugeBars", spec := "gaugeBars", inPlace := ["math.sqrt"], unfollowed := true, recurses := true, plainKeys := false, apart := false, narrowed := true }
def GaugeBarsUptoSaid : Prop := gaugeBarsUptoRow.holds Try.pinned (OpenSpec.upto gaugeBarsSpec)

/-- 'flotillalaw22.GaugeAdds', WHERE WHAT IT READS IS OF BULK AT MOST 1048576: true; the input reads as it did. -/
def gaugeAddsUptoRow : OpenClaim := { program := "ytgoimoaeeiobnaa", sum := "88b69189b55f6c2b65f32798573f984c0626c7ed3c2158830f4f712777798e7b", func := "flotilla/flotillalaw22.GaugeAdds", spec := "gaugeAdds", inPlace := ["math.sqrt"], unfollowed := true, recurses := true, plainKeys := false, apart := false, narrowed := true }
def GaugeAddsUptoSaid : Prop := gaugeAddsUptoRow.holds Try.pinned (OpenSpec.upto gaugeAddsSpec)

/-- 'flotillalaw22.GaugeRises', WHERE WHAT IT READS IS OF BULK AT MOST 1048576: true; the input reads as it did. -/
def gaugeRisesUptoRow : OpenClaim := { program := "ytgoimoaeeiobnaa", sum := "88b69189b55f6c2b65f32798573f984c0626c7ed3c2158830f4f712777798e7b", func := "flotilla/flotillalaw22.GaugeRises", spec := "gaugeRises", inPlace := ["math.sqrt"], unfollowed := true, recurses := true, plainKeys := false, apart := false, narrowed := true }
def GaugeRisesUptoSaid : Prop := gaugeRisesUptoRow.holds Try.pinned (OpenSpec.upto gaugeRisesSpec)

/-- 'flotillalaw22.GaugeOrder', WHERE WHAT IT READS IS OF BULK AT MOST 1048576: true; the input reads as it did. -/
def gaugeOrderUptoRow : OpenClaim := { program := "ytgoimoaeeiobnaa", sum := "88b69189b55f6c2b65f32798573f984c0626c7ed3c2158830f4f712777798e7b", func := "flotilla/flotillalaw22.GaugeOrder", spec := "gaugeOrder", inPlace := ["math.sqrt"], unfollowed := true, recurses := true, plainKeys := false, apart := false, narrowed := true }
def GaugeOrderUptoSaid : Prop := gaugeOrderUptoRow.holds Try.pinned (OpenSpec.upto gaugeOrderSpec)

/-- 'flotillalaw22.GaugeSmooth', WHERE WHAT IT READS IS OF BULK AT MOST 1048576: true; the input reads as it did. -/
def gaugeSmoothUptoRow : OpenClaim := { program := "ytgoimoaeeiobnaa", sum := "88b69189b55f6c2b65f32798573f984c0626c7ed3c2158830f4f712777798e7b", func := "flotilla/flotillalaw22.GaugeSmooth", spec := "gaugeSmooth", inPlace := ["math.sqrt"], unfollowed := true, recurses := true, plainKeys := false, apart := false, narrowed := true }
def GaugeSmoothUptoSaid : Prop := gaugeSmoothUptoRow.holds Try.pinned (OpenSpec.upto gaugeSmoothSpec)

/-- 'flotillalaw22.GaugeFlat', WHERE WHAT IT READS IS OF BULK AT MOST 1048576: true; the input reads as it did. -/
def gaugeFlatUptoRow : OpenClaim := { program := "ytgoimoaeeiobnaa", sum := "88b69189b55f6c2b65f32798573f984c0626c7ed3c2158830f4f712777798e7b", func := "flotilla/flotillalaw22.GaugeFlat", spec := "gaugeFlat", inPlace := ["math.sqrt"], unfollowed := true, recurses := true, plainKeys := false, apart := false, narrowed := true }
def GaugeFlatUptoSaid : Prop := gaugeFlatUptoRow.holds Try.pinned (OpenSpec.upto gaugeFlatSpec)

/-- 'flotillalaw22.GaugeWhole', WHERE WHAT IT READS IS OF BULK AT MOST 1048576: true; the input reads as it did. -/
def gaugeWholeUptoRow : OpenClaim := { program := "ytgoimoaeeiobnaa", sum := "88b69189b55f6c2b65f32798573f984c0626c7ed3c2158830f4f712777798e7b", func := "flotilla/flotillalaw22.GaugeWhole", spec := "gaugeWhole", inPlace := ["math.sqrt"], unfollowed := true, recurses := true, plainKeys := false, apart := false, narrowed := true }
def GaugeWholeUptoSaid : Prop := gaugeWholeUptoRow.holds Try.pinned (OpenSpec.upto gaugeWholeSpec)

/-- 'flotillalaw22.GaugeWaits', WHERE WHAT IT READS IS OF BULK AT MOST 1048576: true; the input reads as it did. -/
def gaugeWaitsUptoRow : OpenClaim := { program := "ytgoimoaeeiobnaa", sum := "88b69189b55f6c2b65f32798573f984c0626c7ed3c2158830f4f712777798e7b", func := "flotilla/flotillalaw22.GaugeWaits", spec := "gaugeWaits", inPlace := ["math.sqrt"], unfollowed := true, recurses := true, plainKeys := false, apart := false, narrowed := true }
def GaugeWaitsUptoSaid : Prop := gaugeWaitsUptoRow.holds Try.pinned (OpenSpec.upto gaugeWaitsSpec)

end Rows
end Go.Proofs.Ytgoimoaeeiobnaa
