/- The script's acts, out of the argument; OplogStays for every input. -/
import Derived.Test.YtpaaghbmlenlfaaOlStay
namespace Go.Proofs.Ytpaaghbmlenlfaa.Ol
open Go.RowKit Go.Hp
set_option linter.unusedSimpArgs false
set_option linter.unusedVariables false
set_option maxRecDepth 100000
theorem Try.cells54 : Try.prog.cellsOf 54 = 12 := by kernel_rfl
theorem Try.cells51 : Try.prog.cellsOf 51 = 7 := by kernel_rfl
theorem Try.cells49 : Try.prog.cellsOf 49 = 5 := by kernel_rfl
theorem Try.cells52 : Try.prog.cellsOf 52 = 1 := by kernel_rfl
theorem Try.cells3 : Try.prog.cellsOf 3 = 1 := by kernel_rfl
theorem Try.cells9 : Try.prog.cellsOf 9 = 1 := by kernel_rfl
theorem Try.bytes54 : Try.prog.bytesOf 54 = 128 := by kernel_rfl
theorem op_open {w : World} {cs : List Value} (h : Rdg Try.prog w 49 cs) : ∃ (k : Int) (nm tx : ByteArray) (nu mo : Int), cs = [.int .i64 k, .string nm, .string tx, .int .i64 nu, .int .i64 mo] := by
  obtain ⟨hl, hf⟩ := h.struct Try.underlying49
  rw [Try.cells49] at hl
  match cs, hl with
  | [c0, c1, c2, c3, c4], _ =>
    obtain ⟨k, hk, _⟩ := (hf 0 _ rfl).int Try.underlying3
    obtain ⟨a, ha, _⟩ := (hf 1 _ rfl).string Try.underlying9
    obtain ⟨n, hn, _⟩ := (hf 2 _ rfl).string Try.underlying9
    obtain ⟨u, hu, _⟩ := (hf 3 _ rfl).int Try.underlying3
    obtain ⟨t, ht, _⟩ := (hf 4 _ rfl).int Try.underlying3
    simp [Try.cells3, Try.cells9] at hk ha hn hu ht
    exact ⟨k, a, n, u, t, by rw [hk, ha, hn, hu, ht]⟩
theorem en_open {w : World} {cs : List Value} (h : Rdg Try.prog w 51 cs) : ∃ e : En, cs = e.cells := by
  obtain ⟨hl, hf⟩ := h.struct Try.underlying51
  rw [Try.cells51] at hl
  match cs, hl with
  | [c0, c1, c2, c3, c4, c5, c6], _ =>
    obtain ⟨c, hc, _⟩ := (hf 0 _ rfl).int Try.underlying3
    obtain ⟨n, hn, _⟩ := (hf 1 _ rfl).int Try.underlying3
    obtain ⟨k, nm, tx, nu, mo, ho⟩ := op_open (hf 2 _ rfl)
    simp [Try.cells3, Try.cells49] at hc hn ho
    obtain ⟨h2, h3, h4, h5, h6⟩ := ho
    exact ⟨⟨c, n, k, nm, tx, nu, mo⟩, by rw [hc, hn, h2, h3, h4, h5, h6]; rfl⟩
theorem act_open {w : World} {cs : List Value} (h : Rdg Try.prog w 54 cs) : ∃ (k lg op mo : Int) (e : En) (la : Option Addr) (ln lc : Nat), cs = [.int .i64 k, .int .i64 lg, .int .i64 op, .int .i64 mo] ++ e.cells ++ [.slice la ln lc] := by
  obtain ⟨hl, hf⟩ := h.struct Try.underlying54
  rw [Try.cells54] at hl
  match cs, hl with
  | [c0, c1, c2, c3, c4, c5, c6, c7, c8, c9, c10, c11], _ =>
    obtain ⟨k, hk, _⟩ := (hf 0 _ rfl).int Try.underlying3
    obtain ⟨lg, hlg, _⟩ := (hf 1 _ rfl).int Try.underlying3
    obtain ⟨op, hop, _⟩ := (hf 2 _ rfl).int Try.underlying3
    obtain ⟨mo, hmo, _⟩ := (hf 3 _ rfl).int Try.underlying3
    obtain ⟨e, he⟩ := en_open (hf 4 _ rfl)
    have hs := (hf 5 _ rfl).slice Try.underlying52 (by rw [Try.cells51]; decide)
    obtain ⟨la, ln, lc, hla⟩ : ∃ la ln lc, c11 = .slice la ln lc := by
      rcases hs with h0 | ⟨a, l, c, h0, _⟩
      · simp [Try.cells52] at h0; exact ⟨_, _, _, h0⟩
      · simp [Try.cells52] at h0; exact ⟨_, _, _, h0⟩
    simp [Try.cells3, Try.cells51] at hk hlg hop hmo he
    refine ⟨k, lg, op, mo, e, la, ln, lc, ?_⟩
    rw [hk, hlg, hop, hmo, ← he, hla]
    rfl
theorem acts_open {w : World} {v : Value} (h : ArgOk Try.prog w 43 v) : ∃ A len cap, v = .slice A len cap ∧ ActsAt w A len ∧ len * 128 ≤ 140737488351232 := by
  obtain ⟨A, len, cap, rfl⟩ := h.slice Try.underlying43
  refine ⟨A, len, cap, rfl, ?_⟩
  rcases h.rdg.slice Try.underlying43 (by rw [Try.cells54]; decide) with h0 | ⟨a, l, c, hc, hl, _, hb, hi⟩
  · simp [Value.cells] at h0
    obtain ⟨rfl, rfl, rfl⟩ := h0
    exact ⟨fun i hi => absurd hi (by omega), by omega⟩
  · simp [Value.cells] at hc
    obtain ⟨rfl, rfl, rfl⟩ := hc
    rw [Try.bytes54] at hb
    refine ⟨fun i hil => ?_, by omega⟩
    obtain ⟨b, off, cs', rfl, hbl, _, hr, hcell⟩ := hi i (by omega)
    obtain ⟨k, lg, op, mo, e, la, ln, lc, rfl⟩ := act_open hr
    rw [Try.cells54] at hcell
    exact ⟨b, off, k, lg, op, mo, e, la, ln, lc, rfl, hbl, hcell 0 _ rfl, hcell 1 _ rfl, hcell 2 _ rfl, hcell 3 _ rfl, hcell 4 _ rfl, hcell 5 _ rfl, hcell 6 _ rfl, hcell 7 _ rfl, hcell 8 _ rfl, hcell 9 _ rfl, hcell 10 _ rfl, hcell 11 _ rfl⟩
theorem stays_any (room : Int) (v : Value) (_wr : (Lit.int .i64 room).wf = true) (w : World) (hv : ArgOk Try.prog w 43 v) :
    Calls Try.prog 9 #[.int .i64 room, v] w fun e w' => e = .returned (.bool true) ∧ Below w.heap.size w w' := by
  by_cases h : 1 ≤ room ∧ room ≤ 64
  · obtain ⟨A, len, cap, rfl, hA, hl⟩ := acts_open hv
    obtain ⟨r, rfl⟩ := Int.eq_ofNat_of_zero_le (show 0 ≤ room by omega)
    exact stays_yes r A len cap w (by omega) (by omega) hA hl
  · exact stays_no room v w (by omega)
end Go.Proofs.Ytpaaghbmlenlfaa.Ol
