/- The gauge: lists of numbers as arguments. -/
import Derived.Test.YtgoimoaeeiobnaaArg
import Derived.Test.YtgoimoaeeiobnaaGaSt
namespace Go.Proofs.Ytgoimoaeeiobnaa.Ga
open Go.RowKit Go.Hp Go.ChangeShapes Go.WideShapes
set_option linter.unusedVariables false
set_option maxRecDepth 100000
theorem ints_sl {w : World} {v : Value} (h : ArgOk Try.prog w 22 v) : ∃ A ns cap, v = .slice A (List.length ns) cap ∧ (∀ n ∈ ns, (Lit.int .i64 n).wf = true) ∧ Sl w A ns := by
  have hu := Try.underlying22
  have hE : Try.prog.underlying 3 = some (.int .i64) := Try.underlying3
  have hc : Try.prog.cellsOf 3 = 1 := by kernel_rfl
  obtain ⟨A, len, cap, rfl⟩ := h.slice hu
  rcases h.rdg.slice hu (by rw [hc]; decide) with h0 | ⟨a, l, c, hcs, hl, hm, hb, hi⟩
  · simp [Value.cells] at h0
    obtain ⟨rfl, rfl, rfl⟩ := h0
    exact ⟨none, [], 0, rfl, fun _ h => by simp at h, Or.inl rfl⟩
  · simp [Value.cells] at hcs
    obtain ⟨rfl, rfl, rfl⟩ := hcs
    rcases Nat.eq_zero_or_pos len with h0 | h0
    · subst h0
      exact ⟨some a, [], cap, rfl, fun _ h => by simp at h, Or.inl rfl⟩
    obtain ⟨b, off, _, hab, hbl, _⟩ := hi 0 (by omega)
    subst hab
    have hx : ∀ i, ∃ n : Int, i < len → (Lit.int .i64 n).wf = true ∧ w.cell? ⟨b, off + i, none⟩ = some (.int .i64 n) := by
      intro i
      by_cases hil : i < len
      · obtain ⟨b', off', cs', he, hbl, hcl, hr, hcell⟩ := hi i (by omega)
        obtain ⟨n, rfl, hw⟩ := hr.int hE
        have h1 := hcell 0 _ rfl
        rw [hc] at h1
        cases he
        refine ⟨n, fun _ => ⟨hw, ?_⟩⟩
        have ha : (⟨b, off + i, none⟩ : Addr) = ⟨b, off + i * 1 + 0, none⟩ := by rw [Nat.mul_one, Nat.add_zero]
        rw [ha]
        exact h1
      · exact ⟨0, fun h => absurd h hil⟩
    obtain ⟨f, hf⟩ := Classical.axiomOfChoice hx
    have hlen : ((List.range len).map f).length = len := by simp
    refine ⟨some ⟨b, off, none⟩, (List.range len).map f, cap, by rw [hlen], ?_, Or.inr ⟨b, off, rfl, hbl, fun j hj => ?_⟩⟩
    · intro n hn
      obtain ⟨i, hi2, rfl⟩ := List.mem_map.1 hn
      exact (hf i (by simpa using hi2)).1
    · have hj2 : j < len := by rw [hlen] at hj; exact hj
      rw [(hf j hj2).2]
      simp
theorem wf_i64 {n : Int} (h : (Lit.int .i64 n).wf = true) : -9223372036854775808 ≤ n ∧ n ≤ 9223372036854775807 := by
  simp [Lit.wf] at h
  have h1 : IntKind.i64.min = -9223372036854775808 := by decide
  have h2 : IntKind.i64.max = 9223372036854775807 := by decide
  omega
end Go.Proofs.Ytgoimoaeeiobnaa.Ga
