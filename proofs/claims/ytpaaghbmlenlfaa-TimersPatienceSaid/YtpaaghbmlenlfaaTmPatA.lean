/- The script's acts, out of the argument; TimersPatience for every input. -/
import Derived.Test.YtpaaghbmlenlfaaTmPat
namespace Go.Proofs.Ytpaaghbmlenlfaa.Tm
open Go.RowKit Go.Hp
set_option linter.unusedSimpArgs false
set_option linter.unusedVariables false
theorem Try.cells36 : Try.prog.cellsOf 36 = 5 := by kernel_rfl
theorem Try.bytes36 : Try.prog.bytesOf 36 = 48 := by kernel_rfl
set_option maxRecDepth 100000 in
theorem act_open {w : World} {cs : List Value} (h : Rdg Try.prog w 36 cs) : ∃ (k a : Int) (n : ByteArray) (u t : Int), cs = [.int .i64 k, .int .i64 a, .string n, .int .i64 u, .int .i64 t] := by
  obtain ⟨hl, hf⟩ := h.struct Try.underlying36
  rw [Try.cells36] at hl
  match cs, hl with
  | [c0, c1, c2, c3, c4], _ =>
    obtain ⟨k, hk, _⟩ := (hf 0 _ rfl).int Try.underlying3
    obtain ⟨a, ha, _⟩ := (hf 1 _ rfl).int Try.underlying3
    obtain ⟨n, hn, _⟩ := (hf 2 _ rfl).string Try.underlying9
    obtain ⟨u, hu, _⟩ := (hf 3 _ rfl).int Try.underlying3
    obtain ⟨t, ht, _⟩ := (hf 4 _ rfl).int Try.underlying3
    have e3 : Try.prog.cellsOf 3 = 1 := by kernel_rfl
    have e9 : Try.prog.cellsOf 9 = 1 := by kernel_rfl
    simp [e3, e9] at hk ha hn hu ht
    exact ⟨k, a, n, u, t, by rw [hk, ha, hn, hu, ht]⟩
theorem acts_open {w : World} {v : Value} (h : ArgOk Try.prog w 29 v) : ∃ A len cap, v = .slice A len cap ∧ ActsAt w A len ∧ len ≤ 140737488351232 := by
  obtain ⟨A, len, cap, rfl⟩ := h.slice Try.underlying29
  refine ⟨A, len, cap, rfl, ?_⟩
  rcases h.rdg.slice Try.underlying29 (by rw [Try.cells36]; decide) with h0 | ⟨a, l, c, hc, hl, _, hb, hi⟩
  · simp [Value.cells] at h0
    obtain ⟨rfl, rfl, rfl⟩ := h0
    exact ⟨fun i hi => absurd hi (by omega), by omega⟩
  · simp [Value.cells] at hc
    obtain ⟨rfl, rfl, rfl⟩ := hc
    rw [Try.bytes36] at hb
    refine ⟨fun i hil => ?_, by omega⟩
    obtain ⟨b, off, cs', rfl, hbl, _, hr, hcell⟩ := hi i (by omega)
    obtain ⟨k, a, n, u, t, rfl⟩ := act_open hr
    rw [Try.cells36] at hcell
    exact ⟨b, off, k, a, n, u, t, rfl, hbl, hcell 0 _ rfl, hcell 1 _ rfl, hcell 2 _ rfl, hcell 3 _ rfl, hcell 4 _ rfl⟩
set_option maxRecDepth 100000 in
theorem pat_any (base most : Int) (v : Value) (_wb : (Lit.int .i64 base).wf = true) (_wm : (Lit.int .i64 most).wf = true) (w : World) (hv : ArgOk Try.prog w 29 v) :
    Calls Try.prog 8 #[.int .i64 base, .int .i64 most, v] w fun e w' => e = .returned (.bool true) ∧ Below w.heap.size w w' := by
  by_cases h : 1 ≤ base ∧ base ≤ most ∧ most ≤ 1024
  · obtain ⟨A, len, cap, rfl, hA, hl⟩ := acts_open hv
    exact pat_yes base most A len cap w h.1 h.2.1 h.2.2 hA hl
  · exact pat_no base most v w (by omega)
end Go.Proofs.Ytpaaghbmlenlfaa.Tm
