/- What is equal to 0 among the floats of 64 bits: the two noughts. Plain. -/
import Derived.Test.YtmpkjfengfgagaaGaFm
namespace Go.Fl
open Ieee
set_option linter.unusedVariables false
set_option linter.unusedSimpArgs false
theorem xr_ne {r : Nat} (h : r ≠ 0) : xr r ≠ 0 := by
  unfold xr
  split
  · exact Nat.mul_ne_zero h (Nat.pos_iff_ne_zero.1 (Nat.pow_pos (by decide)))
  · exact Nat.mul_ne_zero (by omega) (Nat.pos_iff_ne_zero.1 (Nat.pow_pos (by decide)))
theorem zero_of {f : Nat} (hf : f < 2 ^ 64) (h : double.order f 0 = some .eq) : f = 0 ∨ f = 2 ^ 63 := by
  have f0 : Fnt 0 := by unfold Fnt; decide
  rcases Nat.lt_or_ge (f % 2 ^ 63) inf with h1 | h1
  · rw [order_val h1 f0] at h
    have hv0 : vu 0 = 0 := by unfold vu; simp [xr_zero]
    have hc : compare (vu f) (vu 0) = .eq := Option.some.inj h
    have hv : vu f = 0 := by
      rw [hv0] at hc
      simp only [compare, compareOfLessAndEq] at hc
      by_cases a : vu f < 0
      · rw [if_pos a] at hc; cases hc
      · rw [if_neg a] at hc
        by_cases b : vu f = 0
        · exact b
        · rw [if_neg b] at hc; cases hc
    have hx : xr (f % 2 ^ 63) = 0 := by
      unfold vu at hv
      split at hv <;> omega
    have hz : f % 2 ^ 63 = 0 := Decidable.byContradiction fun hne => xr_ne hne hx
    omega
  · have hsw : double.signWeight = 2 ^ 63 := by decide
    have hb : double.binade = 2 ^ 52 := rfl
    have hi : double.infRung = inf := by decide
    have h2 : (2 : Nat) ^ 52 ≤ inf := by decide
    obtain ⟨s, m, p, hr0, _⟩ := read_fin f0
    unfold Format.order at h
    rw [hr0] at h
    have hrd : (∃ s, double.read f = .infinity s) ∨ ∃ s k, double.read f = .nan s k := by
      unfold Format.read
      rw [hsw, hb, hi]
      simp only []
      rw [if_neg (by omega), if_neg (by omega)]
      by_cases e : f % 2 ^ 63 = inf
      · rw [if_pos e]; exact Or.inl ⟨_, rfl⟩
      · rw [if_neg e]; exact Or.inr ⟨_, _, rfl⟩
    rcases hrd with ⟨s', e⟩ | ⟨s', k, e⟩
    · rw [e] at h
      unfold Datum.order at h
      cases s' <;> simp at h
    · rw [e] at h
      unfold Datum.order at h
      simp at h
end Go.Fl
