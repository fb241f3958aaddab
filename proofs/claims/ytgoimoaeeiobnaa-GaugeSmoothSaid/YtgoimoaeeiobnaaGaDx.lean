/- Division that comes out even. -/
import Derived.Test.YtgoimoaeeiobnaaGaFm
namespace Go.Fl
open Ieee
set_option linter.unusedVariables false
set_option linter.unusedSimpArgs false
theorem log2_mul_le {a n : Nat} (ha : a ≠ 0) (hn : n ≠ 0) : (a * n).log2 ≤ a.log2 + n.log2 + 1 := by
  have h1 : a < 2 ^ (a.log2 + 1) := Nat.lt_log2_self
  have h2 : n < 2 ^ (n.log2 + 1) := Nat.lt_log2_self
  have h3 : a * n < 2 ^ (a.log2 + n.log2 + 2) := by
    have := Nat.mul_lt_mul'' h1 h2
    rw [← Nat.pow_add] at this
    rwa [show a.log2 + n.log2 + 2 = a.log2 + 1 + (n.log2 + 1) by omega]
  have h4 : a * n ≠ 0 := Nat.mul_ne_zero ha hn
  have := (Nat.log2_lt h4).2 h3
  omega
theorem quo_exact {m n q p a b : Nat} (hn : n ≠ 0) (hm53 : m < 2 ^ 53) (ha53 : a < 2 ^ 53) (he : m * 2 ^ p = a * (n * 2 ^ q))
    (hb : ((p : Int) - 4000) - ((q : Int) - 4000) - (((52 + 2 + n.log2 - m.log2 : Nat)) : Int) - 1 = ((b : Nat) : Int) - 4000) :
    (2 * ((m <<< (52 + 2 + n.log2 - m.log2)) / n) + ((m <<< (52 + 2 + n.log2 - m.log2)) % n != 0).toNat) * 2 ^ b = a * un := by
  have hp2 : 0 < 2 ^ p := Nat.two_pow_pos p
  by_cases ha : a = 0
  · subst ha
    have hm : m = 0 := by
      rw [Nat.zero_mul] at he
      rcases Nat.mul_eq_zero.1 he with h | h
      · exact h
      · omega
    subst hm
    simp
  · have hm0 : m ≠ 0 := by
      intro h
      rw [h, Nat.zero_mul] at he
      have h1 : 0 < a * (n * 2 ^ q) := Nat.mul_pos (by omega) (Nat.mul_pos (by omega) (Nat.two_pow_pos q))
      omega
    have hlm : m.log2 ≤ 52 := by have := (Nat.log2_lt hm0).2 hm53; omega
    have hla : a.log2 ≤ 52 := by have := (Nat.log2_lt ha).2 ha53; omega
    have l1 := log2_mul_pow m p hm0
    have l2 := log2_mul_pow (a * n) q (Nat.mul_ne_zero ha hn)
    have l3 := log2_mul_le ha hn
    rw [he, ← Nat.mul_assoc, l2] at l1
    generalize hup : 52 + 2 + n.log2 - m.log2 = up at *
    have hle : p ≤ q + up := by omega
    obtain ⟨t, ht⟩ : ∃ t, t + p = q + up := ⟨q + up - p, by omega⟩
    have hmu : m * 2 ^ up = a * 2 ^ t * n := by
      refine Nat.eq_of_mul_eq_mul_right hp2 ?_
      rw [Nat.mul_right_comm m, he]
      have e1 : a * (n * 2 ^ q) * 2 ^ up = a * n * 2 ^ (q + up) := by rw [Nat.pow_add]; simp only [Nat.mul_assoc]
      have e2 : a * 2 ^ t * n * 2 ^ p = a * n * 2 ^ (t + p) := by rw [Nat.pow_add]; simp only [Nat.mul_assoc, Nat.mul_left_comm, Nat.mul_comm]
      rw [e1, e2, ht]
    rw [Nat.shiftLeft_eq, hmu, Nat.mul_div_cancel _ (by omega), Nat.mul_mod_left]
    have hb2 : t + 1 + b = e4 := by rw [e4_eq]; omega
    rw [un_eq, ← hb2, Nat.pow_add, Nat.pow_add]
    simp only [bne_self_eq_false, Bool.toNat_false, Nat.add_zero, Nat.pow_one]
    simp only [Nat.mul_assoc, Nat.mul_left_comm, Nat.mul_comm]
theorem div_even {x y a c : Nat} (hx : Fnt x) (hy : Fnt y) (hc : 1 ≤ c) (h : (vu y).natAbs = c * un) (h' : (vu x).natAbs = a * (c * un)) (ha : a < 2 ^ 53) :
    ∃ (u : Bool) (r : Nat), double.div x y = some r ∧ Fnt r ∧ vu r = (if u then -((a * un : Nat) : Int) else ((a * un : Nat) : Int)) ∧ u = ((x / 2 ^ 63 % 2 == 1) ^^ (y / 2 ^ 63 % 2 == 1)) := by
  obtain ⟨s, m, p, h1, hp, _, h2, hm, h3, h4⟩ := read_fin hx
  obtain ⟨t, n, q, g1, _, hq, g2, hn, g3, g4⟩ := read_fin hy
  have a1 : (vu x).natAbs = m * 2 ^ p := by rw [vu_abs, ← h4]
  have a2 : (vu y).natAbs = n * 2 ^ q := by rw [vu_abs, ← g4]
  have hun : un ≤ n * 2 ^ q := by rw [← a2, h]; exact Nat.le_mul_of_pos_left un hc
  have hn0 : n ≠ 0 := fun h0 => by rw [h0, Nat.zero_mul] at hun; have := un_pos; omega
  have he : m * 2 ^ p = a * (n * 2 ^ q) := by rw [← a1, ← a2, h, h']
  obtain ⟨b, e1, _⟩ := quo_bound hn0 hun hp hq hm hn
  have e3 := quo_exact hn0 hm ha he e1
  have hr : rg ((2 * ((m <<< (52 + 2 + n.log2 - m.log2)) / n) + ((m <<< (52 + 2 + n.log2 - m.log2)) % n != 0).toNat) * 2 ^ b) < inf := by rw [e3]; exact (ok_int ha).xr.2
  obtain ⟨n1, n2, _⟩ := nearest_fin (s ^^ t) _ b hr
  rw [e3, (ok_int ha).xr.1] at n2
  refine ⟨s ^^ t, _, ?_, n1, n2, by rw [h3, g3]⟩
  unfold Format.div
  rw [h1, g1]
  have hf : double.fractionBits = 52 := rfl
  rw [hf]
  unfold Datum.quotient
  simp only [if_neg hn0]
  rw [e1, Option.map_some, write_number]
end Go.Fl
