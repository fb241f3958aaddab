/-
  No cell of these rows narrows 'for every input' (looked for: loops, veiled, ifaces, maps, wideKeys, modest, calm, conditions, laid).
  DERIVED. THE GIVEN ROWS OF THIS SEAT. 9 by the template 'for every input the law returns true; each argument reads behind the call as it read before'; 0 by the template 'total and deterministic' (their statements: YtkpgdonpmfebaaaTotals.lean).
  GIVEN WITH THE SEED: the statements are not yours to turn. If you find one false, say at which input.
  Laid BY PROGRAM, IN A SANDBOX (cutbox-rows.mjs): the forced cells as the released guide's own fill.sh prints them over the translation bd391f3a83349a8b… (all of the seat's roots in one cut). By AI agents, Wed Nov 11 2026. No macro, syntax, notation, axiom, sorry.
-/
import Derived.Test.YtkpgdonpmfebaaaChecked
import GoSem.Claim
import GoSem.ClaimJoined
import GoSem.ClaimMapViews
import Derived.JoinedTies
import Derived.KernelRfl
namespace Go.Proofs.Ytkpgdonpmfebaaa
/- THE CELL 'sum', in the pinned program and in every row, IS THE sha256 OF THE DUMP (.gsa) THAT YtkpgdonpmfebaaaProg.lean LOADS. Nothing in Lean hashes anything: it is a label: what it is worth is what the hold of that sum in a sandbox is worth. -/
noncomputable def Try.pinned : Pinned := { name := "ytkpgdonpmfebaaa", sum := "bd391f3a83349a8b7a371a14daa1828ee527f0ceb816c50d9bb49cb3e7c1b5ee", checked := Try.checked }
namespace Rows
def none {H : Type} : Left H := { results := [], args := [] }

/-- 'flotillalaw07.RollNames': WHATEVER THE INPUT: true; the input reads as it did. -/
def rollNamesSpec : ChangeSpec := { name := "rollNames", fn := fun _ => fun
  | [] => { results := [.lit (.bool true)], args := [] }
  | _ => none }
def rollNamesRow : OpenClaim := { program := "ytkpgdonpmfebaaa", sum := "bd391f3a83349a8b7a371a14daa1828ee527f0ceb816c50d9bb49cb3e7c1b5ee", func := "flotilla/flotillalaw07.RollNames", spec := "rollNames", apart := false }
def RollNamesSaid : Prop := rollNamesRow.holds Try.pinned (OpenSpec.ofChange rollNamesSpec)

/-- ITS FALSE NEIGHBOUR: 'it returns false'. Refute it at one input. -/
def rollNamesWrong : ChangeSpec := { name := "rollNames", fn := fun _ => fun
  | [] => { results := [.lit (.bool false)], args := [] }
  | _ => none }
def RollNamesWrongFalsely : Prop := rollNamesRow.holds Try.pinned (OpenSpec.ofChange rollNamesWrong)

/-- 'flotillalaw01.BitsNames': WHATEVER THE INPUT: true; the input reads as it did. -/
def bitsNamesSpec : ChangeSpec := { name := "bitsNames", fn := fun _ => fun
  | [] => { results := [.lit (.bool true)], args := [] }
  | _ => none }
def bitsNamesRow : OpenClaim := { program := "ytkpgdonpmfebaaa", sum := "bd391f3a83349a8b7a371a14daa1828ee527f0ceb816c50d9bb49cb3e7c1b5ee", func := "flotilla/flotillalaw01.BitsNames", spec := "bitsNames", unfollowed := true, recurses := true, apart := false }
def BitsNamesSaid : Prop := bitsNamesRow.holds Try.pinned (OpenSpec.ofChange bitsNamesSpec)

/-- ITS FALSE NEIGHBOUR: 'it returns false'. Refute it at one input. -/
def bitsNamesWrong : ChangeSpec := { name := "bitsNames", fn := fun _ => fun
  | [] => { results := [.lit (.bool false)], args := [] }
  | _ => none }
def BitsNamesWrongFalsely : Prop := bitsNamesRow.holds Try.pinned (OpenSpec.ofChange bitsNamesWrong)

/-- 'flotillalaw01.BitsWrites': WHATEVER THE INPUT: true; the input reads as it did. -/
def bitsWritesSpec : ChangeSpec := { name := "bitsWrites", fn := fun _ => fun
  | [d] => { results := [.lit (.bool true)], args := [d] }
  | _ => none }
def bitsWritesRow : OpenClaim := { program := "ytkpgdonpmfebaaa", sum := "bd391f3a83349a8b7a371a14daa1828ee527f0ceb816c50d9bb49cb3e7c1b5ee", func := "flotilla/flotillalaw01.BitsWrites", spec := "bitsWrites", unfollowed := true, recurses := true, apart := false }
def BitsWritesSaid : Prop := bitsWritesRow.holds Try.pinned (OpenSpec.ofChange bitsWritesSpec)

/-- ITS FALSE NEIGHBOUR: 'it returns false'. Refute it at one input. -/
def bitsWritesWrong : ChangeSpec := { name := "bitsWrites", fn := fun _ => fun
  | [d] => { results := [.lit (.bool false)], args := [d] }
  | _ => none }
def BitsWritesWrongFalsely : Prop := bitsWritesRow.holds Try.pinned (OpenSpec.ofChange bitsWritesWrong)

/-- 'flotillalaw01.BitsReads': WHATEVER THE INPUT: true; the input reads as it did. -/
def bitsReadsSpec : ChangeSpec := { name := "bitsReads", fn := fun _ => fun
  | [d1, d2, d3] => { results := [.lit (.bool true)], args := [d1, d2, d3] }
  | _ => none }
def bitsReadsRow : OpenClaim := { program := "ytkpgdonpmfebaaa", sum := "bd391f3a83349a8b7a371a14daa1828ee527f0ceb816c50d9bb49cb3e7c1b5ee", func := "flotilla/flotillalaw01.BitsReads", spec := "bitsReads", unfollowed := true, recurses := true, apart := false }
def BitsReadsSaid : Prop := bitsReadsRow.holds Try.pinned (OpenSpec.ofChange bitsReadsSpec)

/-- ITS FALSE NEIGHBOUR: 'it returns false'. Refute it at one input. -/
def bitsReadsWrong : ChangeSpec := { name := "bitsReads", fn := fun _ => fun
  | [d1, d2, d3] => { results := [.lit (.bool false)], args := [d1, d2, d3] }
  | _ => none }
def BitsReadsWrongFalsely : Prop := bitsReadsRow.holds Try.pinned (OpenSpec.ofChange bitsReadsWrong)

/-- 'flotillalaw01.BitsOne': WHATEVER THE INPUT: true; the input reads as it did. -/
def bitsOneSpec : ChangeSpec := { name := "bitsOne", fn := fun _ => fun
  | [d1, d2] => { results := [.lit (.bool true)], args := [d1, d2] }
  | _ => none }
def bitsOneRow : OpenClaim := { program := "ytkpgdonpmfebaaa", sum := "bd391f3a83349a8b7a371a14daa1828ee527f0ceb816c50d9bb49cb3e7c1b5ee", func := "flotilla/flotillalaw01.BitsOne", spec := "bitsOne", unfollowed := true, recurses := true, apart := false }
def BitsOneSaid : Prop := bitsOneRow.holds Try.pinned (OpenSpec.ofChange bitsOneSpec)

/-- ITS FALSE NEIGHBOUR: 'it returns false'. Refute it at one input. -/
def bitsOneWrong : ChangeSpec := { name := "bitsOne", fn := fun _ => fun
  | [d1, d2] => { results := [.lit (.bool false)], args := [d1, d2] }
  | _ => none }
def BitsOneWrongFalsely : Prop := bitsOneRow.holds Try.pinned (OpenSpec.ofChange bitsOneWrong)

/-- 'flotillalaw01.BitsBack': WHATEVER THE INPUT: true; the input reads as it did. -/
def bitsBackSpec : ChangeSpec := { name := "bitsBack", fn := fun _ => fun
  | [d] => { results := [.lit (.bool true)], args := [d] }
  | _ => none }
def bitsBackRow : OpenClaim := { program := "ytkpgdonpmfebaaa", sum := "bd391f3a83349a8b7a371a14daa1828ee527f0ceb816c50d9bb49cb3e7c1b5ee", func := "flotilla/flotillalaw01.BitsBack", spec := "bitsBack", unfollowed := true, recurses := true, apart := false }
def BitsBackSaid : Prop := bitsBackRow.holds Try.pinned (OpenSpec.ofChange bitsBackSpec)

/-- ITS FALSE NEIGHBOUR: 'it returns false'. Refute it at one input. -/
def bitsBackWrong : ChangeSpec := { name := "bitsBack", fn := fun _ => fun
  | [d] => { results := [.lit (.bool false)], args := [d] }
  | _ => none }
def BitsBackWrongFalsely : Prop := bitsBackRow.holds Try.pinned (OpenSpec.ofChange bitsBackWrong)

/-- 'flotillalaw01.BitsCuts': WHATEVER THE INPUT: true; the input reads as it did. -/
def bitsCutsSpec : ChangeSpec := { name := "bitsCuts", fn := fun _ => fun
  | [d1, d2] => { results := [.lit (.bool true)], args := [d1, d2] }
  | _ => none }
def bitsCutsRow : OpenClaim := { program := "ytkpgdonpmfebaaa", sum := "bd391f3a83349a8b7a371a14daa1828ee527f0ceb816c50d9bb49cb3e7c1b5ee", func := "flotilla/flotillalaw01.BitsCuts", spec := "bitsCuts", unfollowed := true, recurses := true, apart := false }
def BitsCutsSaid : Prop := bitsCutsRow.holds Try.pinned (OpenSpec.ofChange bitsCutsSpec)

/-- ITS FALSE NEIGHBOUR: 'it returns false'. Refute it at one input. -/
def bitsCutsWrong : ChangeSpec := { name := "bitsCuts", fn := fun _ => fun
  | [d1, d2] => { results := [.lit (.bool false)], args := [d1, d2] }
  | _ => none }
def BitsCutsWrongFalsely : Prop := bitsCutsRow.holds Try.pinned (OpenSpec.ofChange bitsCutsWrong)

/-- 'flotillalaw07.RollRises': WHATEVER THE INPUT: true; the input reads as it did. -/
def rollRisesSpec : ChangeSpec := { name := "rollRises", fn := fun _ => fun
  | [d1, d2] => { results := [.lit (.bool true)], args := [d1, d2] }
  | _ => none }
def rollRisesRow : OpenClaim := { program := "ytkpgdonpmfebaaa", sum := "bd391f3a83349a8b7a371a14daa1828ee527f0ceb816c50d9bb49cb3e7c1b5ee", func := "flotilla/flotillalaw07.RollRises", spec := "rollRises", unfollowed := true, recurses := true, apart := false }
def RollRisesSaid : Prop := rollRisesRow.holds Try.pinned (OpenSpec.ofChange rollRisesSpec)

/-- ITS FALSE NEIGHBOUR: 'it returns false'. Refute it at one input. -/
def rollRisesWrong : ChangeSpec := { name := "rollRises", fn := fun _ => fun
  | [d1, d2] => { results := [.lit (.bool false)], args := [d1, d2] }
  | _ => none }
def RollRisesWrongFalsely : Prop := rollRisesRow.holds Try.pinned (OpenSpec.ofChange rollRisesWrong)

/-- 'flotillalaw07.RollPlays': WHATEVER THE INPUT: true; the input reads as it did. -/
def rollPlaysSpec : ChangeSpec := { name := "rollPlays", fn := fun _ => fun
  | [d] => { results := [.lit (.bool true)], args := [d] }
  | _ => none }
def rollPlaysRow : OpenClaim := { program := "ytkpgdonpmfebaaa", sum := "bd391f3a83349a8b7a371a14daa1828ee527f0ceb816c50d9bb49cb3e7c1b5ee", func := "flotilla/flotillalaw07.RollPlays", spec := "rollPlays", unfollowed := true, recurses := true, apart := false }
def RollPlaysSaid : Prop := rollPlaysRow.holds Try.pinned (OpenSpec.ofChange rollPlaysSpec)

/-- ITS FALSE NEIGHBOUR: 'it returns false'. Refute it at one input. -/
def rollPlaysWrong : ChangeSpec := { name := "rollPlays", fn := fun _ => fun
  | [d] => { results := [.lit (.bool false)], args := [d] }
  | _ => none }
def RollPlaysWrongFalsely : Prop := rollPlaysRow.holds Try.pinned (OpenSpec.ofChange rollPlaysWrong)

/- THE SECOND FORM. 'bulk': how many values and letters a reading holds, each counted each time it is reached (what is shared counts as often as it is met; a slice's spare places count too). A statement '..UptoSaid' is the law's where the arguments, and the package variables that the reading takes, are together of bulk at most 1048576: NARROWER than '..Said'. Prove '..Said' where nothing that the law and all that it calls make is longer than what came in: it says more and counts as full. Else prove '..UptoSaid'. A law counts once. -/
mutual
def uptoBulk {H : Type} : DataW H → Nat
  | .lit (.string bytes) => bytes.length + 1
  | .lit _ => 1
  | .nil => 1
  | .ptr d => uptoBulk d + 1
  | .slice elems spare => uptoBulkAll elems + uptoBulkAll spare + 1
  | .agg parts => uptoBulkAll parts + 1
  | .iface _ d => uptoBulk d + 1
  | .map entries => uptoBulkEntries entries + 1
  | .held _ => 1
def uptoBulkAll {H : Type} : List (DataW H) → Nat
  | [] => 0
  | d :: r => uptoBulk d + uptoBulkAll r
def uptoBulkEntries {H : Type} : List (Lit × DataW H) → Nat
  | [] => 0
  | x :: r => uptoBulkEntry x + uptoBulkEntries r
def uptoBulkEntry {H : Type} : Lit × DataW H → Nat
  | (.string bytes, d) => bytes.length + uptoBulk d + 1
  | (_, d) => uptoBulk d + 1
 end
def uptoSmall : (H : Type) → List (DataW H) → Bool := fun _ ds => decide (uptoBulkAll ds ≤ 1048576)
def OpenSpec.upto (s : _root_.Go.ChangeSpec) : _root_.Go.OpenSpec := { _root_.Go.OpenSpec.ofChange s with cond := some uptoSmall }

/-- 'flotillalaw07.RollNames', WHERE WHAT IT READS IS OF BULK AT MOST 1048576: true; the input reads as it did. -/
def rollNamesUptoRow : OpenClaim := { program := "ytkpgdonpmfebaaa", sum := "bd391f3a83349a8b7a371a14daa1828ee527f0ceb816c50d9bb49cb3e7c1b5ee", func := "flotilla/flotillalaw07.RollNames", spec := "rollNames", apart := false, narrowed := true }
def RollNamesUptoSaid : Prop := rollNamesUptoRow.holds Try.pinned (OpenSpec.upto rollNamesSpec)

/-- 'flotillalaw01.BitsNames', WHERE WHAT IT READS IS OF BULK AT MOST 1048576: true; the input reads as it did. -/
def bitsNamesUptoRow : OpenClaim := { program := "ytkpgdonpmfebaaa", sum := "bd391f3a83349a8b7a371a14daa1828ee527f0ceb816c50d9bb49cb3e7c1b5ee", func := "flotilla/flotillalaw01.BitsNames", spec := "bitsNames", unfollowed := true, recurses := true, apart := false, narrowed := true }
def BitsNamesUptoSaid : Prop := bitsNamesUptoRow.holds Try.pinned (OpenSpec.upto bitsNamesSpec)

/-- 'flotillalaw01.BitsWrites', WHERE WHAT IT READS IS OF BULK AT MOST 1048576: true; the input reads as it did. -/
def bitsWritesUptoRow : OpenClaim := { program := "ytkpgdonpmfebaaa", sum := "bd391f3a83349a8b7a371a14daa1828ee527f0ceb816c50d9bb49cb3e7c1b5ee", func := "flotilla/flotillalaw01.BitsWrites", spec := "bitsWrites", unfollowed := true, recurses := true, apart := false, narrowed := true }
def BitsWritesUptoSaid : Prop := bitsWritesUptoRow.holds Try.pinned (OpenSpec.upto bitsWritesSpec)

/-- 'flotillalaw01.BitsReads', WHERE WHAT IT READS IS OF BULK AT MOST 1048576: true; the input reads as it did. -/
def bitsReadsUptoRow : OpenClaim := { program := "ytkpgdonpmfebaaa", sum := "bd391f3a83349a8b7a371a14daa1828ee527f0ceb816c50d9bb49cb3e7c1b5ee", func := "flotilla/flotillalaw01.BitsReads", spec := "bitsReads", unfollowed := true, recurses := true, apart := false, narrowed := true }
def BitsReadsUptoSaid : Prop := bitsReadsUptoRow.holds Try.pinned (OpenSpec.upto bitsReadsSpec)

/-- 'flotillalaw01.BitsOne', WHERE WHAT IT READS IS OF BULK AT MOST 1048576: true; the input reads as it did. -/
def bitsOneUptoRow : OpenClaim := { program := "ytkpgdonpmfebaaa", sum := "bd391f3a83349a8b7a371a14daa1828ee527f0ceb816c50d9bb49cb3e7c1b5ee", func := "flotilla/flotillalaw01.BitsOne", spec := "bitsOne", unfollowed := true, recurses := true, apart := false, narrowed := true }
def BitsOneUptoSaid : Prop := bitsOneUptoRow.holds Try.pinned (OpenSpec.upto bitsOneSpec)

/-- 'flotillalaw01.BitsBack', WHERE WHAT IT READS IS OF BULK AT MOST 1048576: true; the input reads as it did. -/
def bitsBackUptoRow : OpenClaim := { program := "ytkpgdonpmfebaaa", sum := "bd391f3a83349a8b7a371a14daa1828ee527f0ceb816c50d9bb49cb3e7c1b5ee", func := "flotilla/flotillalaw01.BitsBack", spec := "bitsBack", unfollowed := true, recurses := true, apart := false, narrowed := true }
def BitsBackUptoSaid : Prop := bitsBackUptoRow.holds Try.pinned (OpenSpec.upto bitsBackSpec)

/-- 'flotillalaw01.BitsCuts', WHERE WHAT IT READS IS OF BULK AT MOST 1048576: true; the input reads as it did. -/
def bitsCutsUptoRow : OpenClaim := { program := "ytkpgdonpmfebaaa", sum := "bd391f3a83349a8b7a371a14daa1828ee527f0ceb816c50d9bb49cb3e7c1b5ee", func := "flotilla/flotillalaw01.BitsCuts", spec := "bitsCuts", unfollowed := true, recurses := true, apart := false, narrowed := true }
def BitsCutsUptoSaid : Prop := bitsCutsUptoRow.holds Try.pinned (OpenSpec.upto bitsCutsSpec)

/-- 'flotillalaw07.RollRises', WHERE WHAT IT READS IS OF BULK AT MOST 1048576: true; the input reads as it did. -/
def rollRisesUptoRow : OpenClaim := { program := "ytkpgdonpmfebaaa", sum := "bd391f3a83349a8b7a371a14daa1828ee527f0ceb816c50d9bb49cb3e7c1b5ee", func := "flotilla/flotillalaw07.RollRises", spec := "rollRises", unfollowed := true, recurses := true, apart := false, narrowed := true }
def RollRisesUptoSaid : Prop := rollRisesUptoRow.holds Try.pinned (OpenSpec.upto rollRisesSpec)

/-- 'flotillalaw07.RollPlays', WHERE WHAT IT READS IS OF BULK AT MOST 1048576: true; the input reads as it did. -/
def rollPlaysUptoRow : OpenClaim := { program := "ytkpgdonpmfebaaa", sum := "bd391f3a83349a8b7a371a14daa1828ee527f0ceb816c50d9bb49cb3e7c1b5ee", func := "flotilla/flotillalaw07.RollPlays", spec := "rollPlays", unfollowed := true, recurses := true, apart := false, narrowed := true }
def RollPlaysUptoSaid : Prop := rollPlaysUptoRow.holds Try.pinned (OpenSpec.upto rollPlaysSpec)

end Rows
end Go.Proofs.Ytkpgdonpmfebaaa
