/- The law's items, out of an argument. -/
import Derived.Test.YtkpgdonpmfebaaaBrR
import Derived.Test.YtkpgdonpmfebaaaArg
namespace Go.Proofs.Ytkpgdonpmfebaaa.Bt
open Go.RowKit Go.Hp
set_option linter.unusedSimpArgs false
set_option linter.unusedVariables false
set_option maxRecDepth 100000
theorem Try.cells36 : Try.prog.cellsOf 36 = 4 := by kernel_rfl
theorem Try.cells3 : Try.prog.cellsOf 3 = 1 := by kernel_rfl
theorem Try.cells4 : Try.prog.cellsOf 4 = 1 := by kernel_rfl
theorem Try.cells9 : Try.prog.cellsOf 9 = 1 := by kernel_rfl
theorem Try.bytes36 : Try.prog.bytesOf 36 = 40 := by kernel_rfl
/-- An item as Go can hold it. -/
def ItA.fits (x : ItA) : Prop := (-9223372036854775808 ≤ x.kind ∧ x.kind ≤ 9223372036854775807) ∧ (-9223372036854775808 ≤ x.n ∧ x.n ≤ 9223372036854775807) ∧ x.s.size ≤ 140737488351232
theorem item_open {w : World} {cs : List Value} (h : Rdg Try.prog w 36 cs) : ∃ x : ItA, cs = x.cells.toList ∧ x.fits := by
  obtain ⟨hl, hf⟩ := h.struct Try.underlying36
  rw [Try.cells36] at hl
  match cs, hl with
  | [c0, c1, c2, c3], _ =>
    obtain ⟨k, hk, wk⟩ := (hf 0 _ rfl).int Try.underlying3
    obtain ⟨n, hn, wn⟩ := (hf 1 _ rfl).int Try.underlying3
    obtain ⟨b, hb⟩ := (hf 2 _ rfl).bool Try.underlying4
    obtain ⟨s, hs, ws⟩ := (hf 3 _ rfl).string Try.underlying9
    simp [Try.cells3, Try.cells4, Try.cells9] at hk hn hb hs
    simp [Lit.wf, IntKind.min, IntKind.max, IntKind.signed, IntKind.bits] at wk wn
    exact ⟨⟨k, n, b, s⟩, by rw [hk, hn, hb, hs]; rfl, ⟨by simp only []; omega, by simp only []; omega⟩, by simp only []; omega, ws⟩
/-- Items in memory. -/
def ItemsAt (w : World) (A : Option Addr) (its : List ItA) : Prop :=
  ∀ i (h : i < its.length), its[i].fits ∧ ∃ b off, A = some ⟨b, off, none⟩ ∧ b < w.heap.size ∧ ∀ j u, its[i].cells.toList[j]? = some u → w.cell? ⟨b, off + i * 4 + j, none⟩ = some u
theorem items_open {w : World} {v : Value} (h : ArgOk Try.prog w 23 v) : ∃ A its cap, v = .slice A (List.length its) cap ∧ ItemsAt w A its ∧ its.length * 40 ≤ 140737488351232 := by
  obtain ⟨A, len, cap, rfl⟩ := h.slice Try.underlying23
  rcases h.rdg.slice Try.underlying23 (by rw [Try.cells36]; decide) with h0 | ⟨a, l, c, hc, hl, _, hb, hi⟩
  · simp [Value.cells] at h0
    obtain ⟨rfl, rfl, rfl⟩ := h0
    exact ⟨none, [], 0, rfl, fun i hi => absurd hi (by simp), by simp⟩
  · simp [Value.cells] at hc
    obtain ⟨rfl, rfl, rfl⟩ := hc
    rw [Try.bytes36] at hb
    have hx : ∀ i, ∃ x : ItA, i < len → x.fits ∧ ∃ b off, a = ⟨b, off, none⟩ ∧ b < w.heap.size ∧ ∀ j u, x.cells.toList[j]? = some u → w.cell? ⟨b, off + i * 4 + j, none⟩ = some u := by
      intro i
      by_cases hil : i < len
      · obtain ⟨b, off, cs', ha, hbl, _, hr, hcell⟩ := hi i (by omega)
        obtain ⟨x, rfl, hf⟩ := item_open hr
        rw [Try.cells36] at hcell
        exact ⟨x, fun _ => ⟨hf, b, off, ha, hbl, hcell⟩⟩
      · exact ⟨⟨0, 0, false, ByteArray.empty⟩, fun h => absurd h hil⟩
    obtain ⟨f, hf⟩ := Classical.axiomOfChoice hx
    refine ⟨some a, (List.range len).map f, cap, by simp, fun i hil => ?_, by simp; omega⟩
    have hil2 : i < len := by simpa using hil
    obtain ⟨h1, b, off, h2, h3, h4⟩ := hf i hil2
    have e : ((List.range len).map f)[i] = f i := by simp
    rw [e]
    exact ⟨h1, b, off, by rw [h2], h3, h4⟩
end Go.Proofs.Ytkpgdonpmfebaaa.Bt
