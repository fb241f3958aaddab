/- Acts and entries as arguments. -/
import Derived.Test.YtpaaghbmlenlfaaOlRc
import Derived.Test.YtpaaghbmlenlfaaOpn
namespace Go.Proofs.Ytpaaghbmlenlfaa.Ol
open Go.RowKit Go.Hp
attribute [local go_sem] min2_lean min_two max2_lean max_two
set_option linter.unusedSimpArgs false
set_option linter.unusedVariables false
set_option maxRecDepth 100000
theorem Try.bytes51 : Try.prog.bytesOf 51 = 72 := by kernel_rfl
theorem Try.cells54 : Try.prog.cellsOf 54 = 12 := by kernel_rfl
theorem Try.cells51 : Try.prog.cellsOf 51 = 7 := by kernel_rfl
theorem Try.cells49 : Try.prog.cellsOf 49 = 5 := by kernel_rfl
theorem Try.cells52 : Try.prog.cellsOf 52 = 1 := by kernel_rfl
theorem Try.cells3 : Try.prog.cellsOf 3 = 1 := by kernel_rfl
theorem Try.cells9 : Try.prog.cellsOf 9 = 1 := by kernel_rfl
theorem Try.bytes54 : Try.prog.bytesOf 54 = 128 := by kernel_rfl
theorem op_open {w : World} {cs : List Value} (h : Rdg Try.prog w 49 cs) : ∃ (k : Int) (nm tx : ByteArray) (nu mo : Int), cs = [.int .i64 k, .string nm, .string tx, .int .i64 nu, .int .i64 mo] := by
  obtain ⟨hl, hf⟩ := h.struct Try.underlying49
  rw [Try.cells49] at hl
  match cs, hl with
  | [c0, c1, c2, c3, c4], _ =>
    obtain ⟨k, hk, _⟩ := (hf 0 _ rfl).int Try.underlying3
    obtain ⟨a, ha, _⟩ := (hf 1 _ rfl).string Try.underlying9
    obtain ⟨n, hn, _⟩ := (hf 2 _ rfl).string Try.underlying9
    obtain ⟨u, hu, _⟩ := (hf 3 _ rfl).int Try.underlying3
    obtain ⟨t, ht, _⟩ := (hf 4 _ rfl).int Try.underlying3
    simp [Try.cells3, Try.cells9] at hk ha hn hu ht
    exact ⟨k, a, n, u, t, by rw [hk, ha, hn, hu, ht]⟩
theorem en_open {w : World} {cs : List Value} (h : Rdg Try.prog w 51 cs) : ∃ e : En, cs = e.cells := by
  obtain ⟨hl, hf⟩ := h.struct Try.underlying51
  rw [Try.cells51] at hl
  match cs, hl with
  | [c0, c1, c2, c3, c4, c5, c6], _ =>
    obtain ⟨c, hc, _⟩ := (hf 0 _ rfl).int Try.underlying3
    obtain ⟨n, hn, _⟩ := (hf 1 _ rfl).int Try.underlying3
    obtain ⟨k, nm, tx, nu, mo, ho⟩ := op_open (hf 2 _ rfl)
    simp [Try.cells3, Try.cells49] at hc hn ho
    obtain ⟨h2, h3, h4, h5, h6⟩ := ho
    exact ⟨⟨c, n, k, nm, tx, nu, mo⟩, by rw [hc, hn, h2, h3, h4, h5, h6]; rfl⟩
instance : Inhabited AcE := ⟨⟨0, 0, 0, 0, En.zero, []⟩⟩
theorem ac_open {w : World} {cs : List Value} (h : Rdg Try.prog w 54 cs) : ∃ x, ActR w cs x := by
  obtain ⟨hl, hf⟩ := h.struct Try.underlying54
  rw [Try.cells54] at hl
  match cs, hl with
  | [c0, c1, c2, c3, c4, c5, c6, c7, c8, c9, c10, c11], _ =>
    obtain ⟨k, hk, _⟩ := (hf 0 _ rfl).int Try.underlying3
    obtain ⟨lg, hlg, _⟩ := (hf 1 _ rfl).int Try.underlying3
    obtain ⟨op, hop, _⟩ := (hf 2 _ rfl).int Try.underlying3
    obtain ⟨mo, hmo, _⟩ := (hf 3 _ rfl).int Try.underlying3
    obtain ⟨e, he⟩ := en_open (hf 4 _ rfl)
    have h5 := hf 5 _ rfl
    obtain ⟨l, hs⟩ := Rdg.slR (R := EnR) Try.underlying52 Try.cells51 (by omega) Try.bytes51 (fun _ h => en_open h) h5
    simp [Try.cells3, Try.cells51, Try.cells52] at hk hlg hop hmo he hs
    refine ⟨⟨k, lg, op, mo, e, l⟩, c11, ?_, hs⟩
    show _ = [.int .i64 k, .int .i64 lg, .int .i64 op, .int .i64 mo] ++ e.cells ++ [c11]
    rw [hk, hlg, hop, hmo, ← he]
    rfl
end Go.Proofs.Ytpaaghbmlenlfaa.Ol
