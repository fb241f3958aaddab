/- The gauge: one step of Smooth. -/
import Derived.Test.YtgoimoaeeiobnaaGaRi
namespace Go.Proofs.Ytgoimoaeeiobnaa.Ga
open Go.RowKit Go.Hp Go.Fl
set_option linter.unusedSimpArgs false
set_option linter.unusedVariables false
set_option maxRecDepth 100000
theorem rd_up {z : Int} (h0 : 0 ≤ z) (hz : z.natAbs ≤ 2 ^ 66 * un) : rd z ≤ z + ((2 ^ 20 * un : Nat) : Int) := by
  have hG : 0 < 2 ^ 20 * un := Nat.mul_pos (by decide) un_pos
  obtain ⟨n, rfl⟩ : ∃ n : Nat, z = n := ⟨z.toNat, by omega⟩
  have hn : n ≤ 2 ^ 66 * un := by simpa using hz
  have hk1 : n < (n / (2 ^ 20 * un) + 1) * (2 ^ 20 * un) := by
    have h1 := Nat.div_add_mod n (2 ^ 20 * un)
    have h2 := Nat.mod_lt n hG
    rw [Nat.add_mul, Nat.one_mul, Nat.mul_comm (n / (2 ^ 20 * un))]
    omega
  have hk2 : n / (2 ^ 20 * un) * (2 ^ 20 * un) ≤ n := Nat.div_mul_le_self _ _
  have hk3 : n / (2 ^ 20 * un) ≤ 2 ^ 46 := by
    refine Nat.div_le_of_le_mul ?_
    rw [show 2 ^ 20 * un * 2 ^ 46 = 2 ^ 66 * un by rw [Nat.mul_right_comm, ← Nat.pow_add]]
    exact hn
  generalize n / (2 ^ 20 * un) = k at *
  have hok : Ok (((((k + 1) * (2 ^ 20 * un) : Nat)) : Int).natAbs) := by
    rw [Int.natAbs_natCast, ← Nat.mul_assoc]
    exact ok_shift (by omega) (by omega)
  have h1 := rd_mono (z := (n : Int)) (y := (((k + 1) * (2 ^ 20 * un) : Nat) : Int)) (by omega)
  rw [(rd_ok hok).1] at h1
  have h2 : (k + 1) * (2 ^ 20 * un) ≤ n + 2 ^ 20 * un := by rw [Nat.add_mul, Nat.one_mul]; omega
  have h3 := Int.ofNat_le.2 h2
  simp only [Int.natCast_add] at h3
  exact Int.le_trans h1 h3
theorem rd_down {z : Int} (h0 : z ≤ 0) (hz : z.natAbs ≤ 2 ^ 66 * un) : z - ((2 ^ 20 * un : Nat) : Int) ≤ rd z := by
  have h := rd_up (z := -z) (by omega) (by omega)
  rw [rd_neg] at h
  omega
def mv (p m : Nat) (x : Int) : Nat := (Ieee.double.add m ((Ieee.double.mul p ((Ieee.double.sub (fi x) m).getD 0)).getD 0)).getD 0
theorem mul_part {p d : Nat} (hp : shareB p = true) (hd : Fnt d) : ∃ q, Ieee.double.mul p d = some q ∧ Fnt q ∧ ((0 ≤ vu d ∧ 0 ≤ vu q ∧ vu q ≤ vu d) ∨ (vu d ≤ 0 ∧ vu d ≤ vu q ∧ vu q ≤ 0)) := by
  obtain ⟨p1, p2, p3⟩ := share_val hp
  obtain ⟨u, k, b, e1, e2, e3⟩ := mul_val p1 hd
  have hk : k * 2 ^ b ≤ (vu d).natAbs := by
    refine Nat.le_of_mul_le_mul_right (c := un) ?_ un_pos
    rw [e3, Nat.mul_comm]
    exact Nat.mul_le_mul_left _ (by omega)
  have hv := vu_rg hd
  have hr : rg (k * 2 ^ b) < inf := Nat.lt_of_le_of_lt (rg_mono hk) hv.1
  obtain ⟨n1, n2, _⟩ := nearest_fin u k b hr
  have hx : xr (rg (k * 2 ^ b)) ≤ (vu d).natAbs := by
    have h1 := xr_mono (rg_mono hk)
    rw [← rd_abs, hv.2] at h1
    exact h1
  have hs := sign_vu p1
  have hpz : p / 2 ^ 63 % 2 = 0 := by
    rcases Nat.mod_two_eq_zero_or_one (p / 2 ^ 63) with h | h
    · exact h
    · have := hs.1 h; omega
  have hds := sign_vu hd
  refine ⟨_, e1, n1, ?_⟩
  rw [n2]
  rcases Nat.mod_two_eq_zero_or_one (d / 2 ^ 63) with h | h
  · left
    have hu : u = false := by rw [e2, hpz, h]; rfl
    have := hds.2 h
    rw [hu]
    simp only [Bool.false_eq_true, if_false]
    omega
  · right
    have hu : u = true := by rw [e2, hpz, h]; rfl
    have := hds.1 h
    rw [hu]
    simp only [if_true]
    omega
theorem sm_step {p m : Nat} {x : Int} (hp : shareB p = true) (hm : Fnt m) (hb : (vu m).natAbs ≤ 2 ^ 64 * un) (hx : -9223372036854775808 ≤ x ∧ x ≤ 9223372036854775807) :
    ∃ d q, Ieee.double.sub (fi x) m = some d ∧ Ieee.double.mul p d = some q ∧ Ieee.double.add m q = some (mv p m x) ∧ Fnt (mv p m x) ∧ (vu (mv p m x)).natAbs ≤ 2 ^ 64 * un := by
  have hf := fi_val x (by omega)
  have hl := fi_le x (by omega)
  have hD : (vu (fi x) - vu m).natAbs ≤ 2 ^ 66 * un := by omega
  obtain ⟨d, d1, d2, d3⟩ := sub_val hf.1 hm (rd_le (ok_pow 66 (by omega)) hD).2
  obtain ⟨q, q1, q2, q3⟩ := mul_part hp d2
  have hB : (vu m + vu q).natAbs ≤ 2 ^ 64 * un := by
    have hpos := un_pos
    rcases q3 with ⟨a1, a2, a3⟩ | ⟨a1, a2, a3⟩
    · by_cases h : 0 ≤ vu (fi x) - vu m
      · have := rd_up h hD
        rw [← d3] at this
        omega
      · have := rd_nonpos (z := vu (fi x) - vu m) (by omega)
        rw [← d3] at this
        omega
    · by_cases h : vu (fi x) - vu m ≤ 0
      · have := rd_down h hD
        rw [← d3] at this
        omega
      · have := rd_nonneg (z := vu (fi x) - vu m) (by omega)
        rw [← d3] at this
        omega
  have hr := rd_le (ok_pow 64 (by omega)) hB
  obtain ⟨r, r1, r2, r3, _⟩ := add_val hm q2 hr.2
  have hmv : mv p m x = r := by unfold mv; rw [d1, Option.getD_some, q1, Option.getD_some, r1]; rfl
  rw [hmv]
  exact ⟨d, q, d1, q1, r1, r2, by rw [r3]; exact hr.1⟩
/-- The smoothed value behind sample i. -/
def smAt (p : Nat) (zs : List Int) : Nat → Nat
  | 0 => fi (zs.getD 0 0)
  | i + 1 => mv p (smAt p zs i) (zs.getD (i + 1) 0)
theorem smAt_ok {p : Nat} {zs : List Int} (hp : shareB p = true) (h : I64 zs) (i : Nat) (hi : i < zs.length) : Fnt (smAt p zs i) ∧ (vu (smAt p zs i)).natAbs ≤ 2 ^ 64 * un := by
  have hx : ∀ j, j < zs.length → -9223372036854775808 ≤ zs.getD j 0 ∧ zs.getD j 0 ≤ 9223372036854775807 := by
    intro j hj
    have : zs.getD j 0 = zs[j] := by simp [List.getD, hj]
    rw [this]
    exact h _ (List.getElem_mem hj)
  induction i with
  | zero =>
    have h0 := hx 0 hi
    have hf := fi_val (zs.getD 0 0) (by omega)
    have hl := fi_le (zs.getD 0 0) (by omega)
    exact ⟨hf.1, by have := un_pos; show (vu (fi (zs.getD 0 0))).natAbs ≤ _; omega⟩
  | succ i ih =>
    obtain ⟨i1, i2⟩ := ih (by omega)
    obtain ⟨d, q, _, _, _, h4, h5⟩ := sm_step hp i1 i2 (hx (i + 1) hi)
    exact ⟨h4, h5⟩
def smF (p : Nat) (zs : List Int) (k : Nat) : List Value := (List.range k).map fun i => Value.float .f64 (smAt p zs i)
end Go.Proofs.Ytgoimoaeeiobnaa.Ga
