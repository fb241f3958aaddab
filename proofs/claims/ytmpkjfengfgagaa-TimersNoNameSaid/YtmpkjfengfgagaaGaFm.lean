/- Floats of 64 bits: sums, products, quotients, order. Plain. -/
import Derived.Test.YtmpkjfengfgagaaGaFl
namespace Go.Fl
open Ieee
set_option linter.unusedVariables false
set_option linter.unusedSimpArgs false
theorem rd_zero : rd 0 = 0 := by unfold rd; rw [if_neg (by omega), Int.natAbs_zero, rg_zero, xr_zero]; rfl
theorem rd_nonneg {z : Int} (h : 0 ≤ z) : 0 ≤ rd z := by unfold rd; rw [if_neg (by omega)]; exact Int.natCast_nonneg _
theorem rd_nonpos {z : Int} (h : z ≤ 0) : rd z ≤ 0 := by
  by_cases h0 : z = 0
  · rw [h0, rd_zero]; exact Int.le_refl 0
  · unfold rd; rw [if_pos (by omega)]
    have := Int.natCast_nonneg (xr (rg z.natAbs))
    omega
theorem rd_abs (z : Int) : (rd z).natAbs = xr (rg z.natAbs) := by unfold rd; split <;> simp
/-- Rounding rises. -/
theorem rd_mono {z y : Int} (h : z ≤ y) : rd z ≤ rd y := by
  by_cases h1 : z < 0
  · by_cases h2 : y < 0
    · unfold rd
      rw [if_pos h1, if_pos h2]
      have := xr_mono (rg_mono (show y.natAbs ≤ z.natAbs by omega))
      omega
    · exact Int.le_trans (rd_nonpos (by omega)) (rd_nonneg (by omega))
  · unfold rd
    rw [if_neg h1, if_neg (by omega)]
    have := xr_mono (rg_mono (show z.natAbs ≤ y.natAbs by omega))
    omega
theorem rd_neg (z : Int) : rd (-z) = -(rd z) := by
  by_cases h0 : z = 0
  · rw [h0]; simp [rd_zero]
  · unfold rd
    by_cases h1 : z < 0
    · rw [if_pos h1, if_neg (by omega), Int.natAbs_neg]; omega
    · rw [if_neg h1, if_pos (by omega), Int.natAbs_neg]
/-- A number of units that a word holds. -/
def Ok (B : Nat) : Prop := ∃ m k, B = m * 2 ^ k ∧ m < 2 ^ 53 ∧ lo ≤ k ∧ k ≤ lo + 1900
theorem Ok.xr {B : Nat} (h : Ok B) : xr (rg B) = B ∧ rg B < inf := by
  obtain ⟨m, k, rfl, h1, h2, h3⟩ := h
  exact rg_exact h1 h2 h3
theorem rd_ok {z : Int} (h : Ok z.natAbs) : rd z = z ∧ rg z.natAbs < inf := by
  refine ⟨?_, h.xr.2⟩
  unfold rd
  rw [h.xr.1]
  split <;> omega
theorem rd_le {z : Int} {B : Nat} (hB : Ok B) (h : z.natAbs ≤ B) : (rd z).natAbs ≤ B ∧ rg z.natAbs < inf := by
  rw [rd_abs]
  have h1 := rg_mono h
  have h2 := hB.xr
  have h3 := xr_mono h1
  rw [h2.1] at h3
  exact ⟨h3, by omega⟩
theorem vu_rg {w : Nat} (h : Fnt w) : rg (vu w).natAbs < inf ∧ rd (vu w) = vu w := by
  have hx := rg_xr h
  have ha : (vu w).natAbs = xr (w % 2 ^ 63) := by unfold vu; split <;> simp
  have hr : rg (vu w).natAbs = w % 2 ^ 63 := by rw [ha, hx]
  refine ⟨by rw [hr]; exact h, ?_⟩
  unfold rd
  rw [hr]
  unfold vu
  split <;> split <;> omega
/-- One, in units. -/
def e4 : Nat := 4000
theorem e4_eq : e4 = 4000 := rfl
def un : Nat := 2 ^ e4
theorem un_eq : un = 2 ^ e4 := rfl
theorem un_pos : 0 < un := Nat.two_pow_pos e4
theorem un_pow (e : Nat) : 2 ^ e * un = 2 ^ (e4 + e) := by rw [un_eq, ← Nat.pow_add, Nat.add_comm]
theorem ok_int {m : Nat} (h : m < 2 ^ 53) : Ok (m * un) := ⟨m, e4, rfl, h, by rw [lo_eq, e4_eq]; omega, by rw [lo_eq, e4_eq]; omega⟩
theorem ok_shift {m e : Nat} (h : m < 2 ^ 53) (he : e ≤ 800) : Ok (m * 2 ^ e * un) := ⟨m, e4 + e, by rw [Nat.mul_assoc, un_pow], h, by rw [lo_eq, e4_eq]; omega, by rw [lo_eq, e4_eq]; omega⟩
theorem mul_un_natAbs (n : Int) : (n * (un : Int)).natAbs = n.natAbs * un := by rw [Int.natAbs_mul, Int.natAbs_natCast]
/-- A whole number as a float. -/
def fi (n : Int) : Nat := double.write (.number (decide (n < 0)) n.natAbs 0)
theorem fi_val (n : Int) (h : n.natAbs ≤ 2 ^ 63) : Fnt (fi n) ∧ vu (fi n) = rd (n * un) ∧ (0 ≤ n → fi n < 2 ^ 63) := by
  have hk : n.natAbs * 2 ^ e4 = (n * (un : Int)).natAbs := by rw [mul_un_natAbs, un_eq]
  have hup : 0 < (un : Int) := Int.natCast_pos.2 un_pos
  have hr : rg (n * (un : Int)).natAbs < inf := by
    have hB : Ok (1 * 2 ^ 63 * un) := ok_shift (by omega) (by omega)
    refine (rd_le hB ?_).2
    rw [mul_un_natAbs]
    exact Nat.mul_le_mul_right _ (by omega)
  have hs : n * (un : Int) < 0 ↔ n < 0 := by
    constructor
    · intro h1
      by_cases h2 : n < 0
      · exact h2
      · have := Int.mul_nonneg (by omega : 0 ≤ n) (Int.le_of_lt hup); omega
    · intro h1; exact Int.mul_neg_of_neg_of_pos h1 hup
  have hw := write_val (decide (n < 0)) n.natAbs e4 (n * (un : Int)) hk (fun h => by simpa using hs.1 h) (fun h => by
    have h1 : ¬ n < 0 := fun h1 => by have := hs.2 h1; omega
    simpa using h1) hr
  have e : double.nearest (decide (n < 0)) n.natAbs ((e4 : Int) - 4000) = fi n := by
    unfold fi Format.write
    rw [show (e4 : Int) - 4000 = 0 by rw [e4_eq]; omega]
  rw [e] at hw
  exact ⟨hw.1, hw.2.1, fun h => hw.2.2 (by simp; omega)⟩
theorem fi_exact (n : Int) (h : n.natAbs < 2 ^ 53) : vu (fi n) = n * un := by
  have h1 := fi_val n (by omega)
  rw [h1.2.1]
  exact (rd_ok (by rw [mul_un_natAbs]; exact ok_int h)).1
theorem fi_le (n : Int) (h : n.natAbs ≤ 2 ^ 63) : (vu (fi n)).natAbs ≤ 2 ^ 63 * un := by
  rw [(fi_val n h).2.1]
  have hB : Ok (1 * 2 ^ 63 * un) := ok_shift (by omega) (by omega)
  rw [Nat.one_mul] at hB
  refine (rd_le hB ?_).1
  rw [mul_un_natAbs]
  exact Nat.mul_le_mul_right _ h
/-- The sign's bit says whether it is below nought, but for a nought. -/
theorem sign_vu {w : Nat} (h : Fnt w) : (w / 2 ^ 63 % 2 = 1 → vu w ≤ 0) ∧ (w / 2 ^ 63 % 2 = 0 → 0 ≤ vu w) := by
  unfold vu
  constructor
  · intro h1; rw [if_pos h1]; have := Int.natCast_nonneg (xr (w % 2 ^ 63)); omega
  · intro h1; rw [if_neg (by omega)]; exact Int.natCast_nonneg _
theorem order_val {x y : Nat} (hx : Fnt x) (hy : Fnt y) : double.order x y = some (compare (vu x) (vu y)) := by
  obtain ⟨s, m, p, h1, _, _, h2, _⟩ := read_fin hx
  obtain ⟨t, n, q, g1, _, _, g2, _⟩ := read_fin hy
  obtain ⟨b, hb⟩ : ∃ b, min p q = b := ⟨_, rfl⟩
  have hb' : min ((p : Int) - 4000) ((q : Int) - 4000) = (b : Int) - 4000 := by omega
  have e1 : (((p : Int) - 4000) - ((b : Int) - 4000)).toNat = p - b := by omega
  have e2 : (((q : Int) - 4000) - ((b : Int) - 4000)).toNat = q - b := by omega
  unfold Format.order
  rw [h1, g1]
  unfold Datum.order
  simp only [hb', e1, e2]
  congr 1
  rw [← h2, ← g2, ← signed_val s m b p (by omega), ← signed_val t n b q (by omega)]
  have hp : 0 < ((2 ^ b : Nat) : Int) := Int.natCast_pos.2 (Nat.two_pow_pos b)
  generalize ((2 ^ b : Nat) : Int) = c at *
  generalize signed s m (p - b) = X
  generalize signed t n (q - b) = Y
  simp only [compare, compareOfLessAndEq]
  have l : X * c < Y * c ↔ X < Y := ⟨fun h => Int.lt_of_mul_lt_mul_right h (Int.le_of_lt hp), fun h => Int.mul_lt_mul_of_pos_right h hp⟩
  have e : X * c = Y * c ↔ X = Y := ⟨fun h => Int.eq_of_mul_eq_mul_right (by omega) h, fun h => by rw [h]⟩
  simp only [l, e]

theorem write_number (u : Bool) (k : Nat) (pl : Int) : double.write (.number u k pl) = double.nearest u k pl := rfl
theorem vu_abs (w : Nat) : (vu w).natAbs = xr (w % 2 ^ 63) := by unfold vu; split <;> simp
/-- A product: z is its exact number of units, if that is whole. -/
theorem mul_val {x y : Nat} (hx : Fnt x) (hy : Fnt y) : ∃ (u : Bool) (k b : Nat), double.mul x y = some (double.nearest u k ((b : Int) - 4000)) ∧ (u = ((x / 2 ^ 63 % 2 == 1) ^^ (y / 2 ^ 63 % 2 == 1))) ∧ (k * 2 ^ b) * un = (vu x).natAbs * (vu y).natAbs := by
  obtain ⟨s, m, p, h1, hp, _, h2, _, h3, h4⟩ := read_fin hx
  obtain ⟨t, n, q, g1, hq, _, g2, _, g3, g4⟩ := read_fin hy
  have hpq : e4 ≤ p + q := by rw [e4_eq]; rw [lo_eq] at hp hq; omega
  refine ⟨s ^^ t, m * n, p + q - e4, ?_, by rw [h3, g3], ?_⟩
  · unfold Format.mul
    rw [h1, g1]
    have hpl : ((p : Int) - 4000 + ((q : Int) - 4000)) = ((p + q - e4 : Nat) : Int) - 4000 := by rw [e4_eq] at *; omega
    have hpr : (Datum.number s m ((p : Int) - 4000)).product (Datum.number t n ((q : Int) - 4000)) = some (Datum.number (s ^^ t) (m * n) ((p : Int) - 4000 + ((q : Int) - 4000))) := rfl
    rw [hpr, hpl, Option.map_some, write_number]
  · have a1 : (vu x).natAbs = m * 2 ^ p := by rw [vu_abs, ← h4]
    have a2 : (vu y).natAbs = n * 2 ^ q := by rw [vu_abs, ← g4]
    rw [a1, a2, un_eq, Nat.mul_assoc, ← Nat.pow_add, Nat.sub_add_cancel hpq, Nat.pow_add]
    simp only [Nat.mul_assoc, Nat.mul_left_comm, Nat.mul_comm]
theorem nearest_of {u : Bool} {k b B : Nat} (hB : Ok B) (h : k * 2 ^ b ≤ B) : Fnt (double.nearest u k ((b : Int) - 4000)) ∧ (vu (double.nearest u k ((b : Int) - 4000))).natAbs ≤ B ∧ (u = false → 0 ≤ vu (double.nearest u k ((b : Int) - 4000)) ∧ double.nearest u k ((b : Int) - 4000) < 2 ^ 63) ∧ (u = true → vu (double.nearest u k ((b : Int) - 4000)) ≤ 0) := by
  have h1 := rg_mono h
  have h2 := hB.xr
  have h3 := xr_mono h1
  rw [h2.1] at h3
  have hn := nearest_fin u k b (by omega)
  refine ⟨hn.1, ?_, fun hu => ⟨?_, ?_⟩, fun hu => ?_⟩
  · rw [hn.2.1]; cases u <;> simp <;> omega
  · rw [hn.2.1, hu]; simp
  · have hw := nearest_rg u k ((b : Int) - 4000) (by omega)
    rw [show ((b : Int) - 4000 + 4000).toNat = b by omega, hu] at hw
    rw [hu, hw]
    have hi : inf < 2 ^ 63 := by decide
    have hl : rg (k * 2 ^ b) < inf := by omega
    generalize rg (k * 2 ^ b) = c at *
    unfold Format.word
    rw [if_neg (by simp)]
    omega
  · rw [hn.2.1, hu]; simp
theorem quo_bound {m n q p : Nat} (hn : n ≠ 0) (hy : un ≤ n * 2 ^ q) (hp : lo ≤ p) (hq : q ≤ lo + 2046) (hm53 : m < 2 ^ 53) (hn53 : n < 2 ^ 53) :
    ∃ b, ((p : Int) - 4000) - ((q : Int) - 4000) - (((52 + 2 + n.log2 - m.log2 : Nat)) : Int) - 1 = ((b : Nat) : Int) - 4000 ∧
      (2 * ((m <<< (52 + 2 + n.log2 - m.log2)) / n) + ((m <<< (52 + 2 + n.log2 - m.log2)) % n != 0).toNat) * 2 ^ b ≤ 2 * (m * 2 ^ p) := by
  have hnl : n.log2 ≤ 52 := by have := (Nat.log2_lt hn).2 hn53; omega
  obtain ⟨more, hmo⟩ : ∃ more, 52 + 2 + n.log2 - m.log2 = more := ⟨_, rfl⟩
  rw [hmo]
  have hm1 : more ≤ 106 := by omega
  have hb : q + more + 1 ≤ p + e4 := by rw [e4_eq]; rw [lo_eq] at hp hq; omega
  refine ⟨p + e4 - (q + more + 1), by rw [e4_eq] at *; omega, ?_⟩
  by_cases hm0 : m = 0
  · subst hm0
    simp
  · rw [Nat.shiftLeft_eq]
    obtain ⟨D, hD⟩ : ∃ D, m * 2 ^ more = D := ⟨_, rfl⟩
    rw [hD]
    have hDn : n ≤ D := by
      have h1 : 2 ^ m.log2 ≤ m := Nat.log2_self_le hm0
      have h2 : 2 ^ (m.log2 + more) ≤ D := by rw [Nat.pow_add, ← hD]; exact Nat.mul_le_mul_right _ h1
      have h3 : n < 2 ^ (n.log2 + 1) := Nat.lt_log2_self
      have h4 : 2 ^ (n.log2 + 1) ≤ 2 ^ (m.log2 + more) := Nat.pow_le_pow_right (by omega) (by omega)
      omega
    obtain ⟨k, hk⟩ : ∃ k, 2 * (D / n) + (D % n != 0).toNat = k := ⟨_, rfl⟩
    rw [hk]
    have hdm := Nat.div_add_mod D n
    have hkn : k * n ≤ 4 * D := by
      have hbt : (D % n != 0).toNat ≤ 1 := Bool.toNat_le _
      have h1 : k ≤ 2 * (D / n) + 1 := by omega
      have h2 : k * n ≤ (2 * (D / n) + 1) * n := Nat.mul_le_mul_right _ h1
      have h3 : (2 * (D / n) + 1) * n = 2 * (n * (D / n)) + n := by rw [Nat.add_mul, Nat.one_mul, Nat.mul_assoc, Nat.mul_comm (D / n)]
      omega
    have hup := un_pos
    obtain ⟨E, hE⟩ : ∃ E, e4 = E := ⟨_, rfl⟩
    have hun : un = 2 ^ E := by rw [← hE]; exact un_eq
    rw [hE] at hb ⊢
    refine Nat.le_of_mul_le_mul_right (c := un * 2 ^ (q + more + 1)) ?_ (Nat.mul_pos hup (Nat.two_pow_pos _))
    calc k * 2 ^ (p + E - (q + more + 1)) * (un * 2 ^ (q + more + 1)) = k * un * (2 ^ (p + E - (q + more + 1)) * 2 ^ (q + more + 1)) := by
          simp only [Nat.mul_assoc, Nat.mul_left_comm, Nat.mul_comm]
      _ = k * un * 2 ^ (p + E) := by rw [← Nat.pow_add, Nat.sub_add_cancel hb]
      _ ≤ k * (n * 2 ^ q) * 2 ^ (p + E) := Nat.mul_le_mul_right _ (Nat.mul_le_mul_left _ hy)
      _ = (k * n) * (2 ^ q * 2 ^ (p + E)) := by simp only [Nat.mul_assoc]
      _ ≤ (4 * D) * (2 ^ q * 2 ^ (p + E)) := Nat.mul_le_mul_right _ hkn
      _ = 2 * (m * 2 ^ p) * (un * 2 ^ (q + more + 1)) := by
          rw [← hD, hun, Nat.pow_add 2 p E, Nat.pow_add 2 (q + more) 1, Nat.pow_add 2 q more, Nat.pow_one]
          generalize 2 ^ p = a1
          generalize 2 ^ q = a2
          generalize 2 ^ E = a3
          generalize 2 ^ more = a4
          have : 4 * (m * a4) * (a2 * (a1 * a3)) = 2 * (m * a1) * (a3 * (a2 * a4 * 2)) := by
            rw [show 4 * (m * a4) = 2 * (m * a4) * 2 by omega]
            simp only [Nat.mul_assoc, Nat.mul_left_comm, Nat.mul_comm]
          exact this
/-- A quotient by one or more is no greater than twice what was parted. -/
theorem div_val {x y : Nat} (hx : Fnt x) (hy : Fnt y) (h : un ≤ (vu y).natAbs) : ∃ (u : Bool) (k b : Nat), double.div x y = some (double.nearest u k ((b : Int) - 4000)) ∧ (u = ((x / 2 ^ 63 % 2 == 1) ^^ (y / 2 ^ 63 % 2 == 1))) ∧ k * 2 ^ b ≤ 2 * (vu x).natAbs := by
  obtain ⟨s, m, p, h1, hp, _, h2, hm, h3, h4⟩ := read_fin hx
  obtain ⟨t, n, q, g1, _, hq, g2, hn, g3, g4⟩ := read_fin hy
  have a1 : (vu x).natAbs = m * 2 ^ p := by rw [vu_abs, ← h4]
  have a2 : (vu y).natAbs = n * 2 ^ q := by rw [vu_abs, ← g4]
  rw [a2] at h
  rw [a1]
  have hn0 : n ≠ 0 := fun h0 => by rw [h0, Nat.zero_mul] at h; have := un_pos; omega
  obtain ⟨b, e1, e2⟩ := quo_bound hn0 h hp hq hm hn
  refine ⟨s ^^ t, _, b, ?_, by rw [h3, g3], e2⟩
  unfold Format.div
  rw [h1, g1]
  have hf : double.fractionBits = 52 := rfl
  rw [hf]
  unfold Datum.quotient
  simp only [if_neg hn0]
  rw [e1, Option.map_some, write_number]

theorem compare_self (z : Int) : compare z z = .eq := by simp [compare, compareOfLessAndEq]
theorem order_self {r : Nat} (h : r % 2 ^ 63 ≤ inf) : double.order r r = some .eq := by
  rcases Nat.lt_or_ge (r % 2 ^ 63) inf with h1 | h1
  · rw [order_val h1 h1, compare_self]
  · have hsw : double.signWeight = 2 ^ 63 := by decide
    have hb : double.binade = 2 ^ 52 := rfl
    have hi : double.infRung = inf := by decide
    have hr : r % 2 ^ 63 = inf := by omega
    have hrd : double.read r = .infinity (r / 2 ^ 63 % 2 == 1) := by
      unfold Format.read
      rw [hsw, hb, hi, hr]
      simp only []
      rw [if_neg (by decide), if_neg (by omega), if_pos trivial]
    unfold Format.order
    rw [hrd]
    unfold Datum.order
    simp only []
    cases (r / 2 ^ 63 % 2 == 1) <;> rfl
theorem nearest_le_inf (s : Bool) (m : Nat) (p : Int) : double.nearest s m p % 2 ^ 63 ≤ inf := by
  have hsw : double.signWeight = 2 ^ 63 := by decide
  have hi : double.infRung = inf := by decide
  have hw : ∀ r, r ≤ inf → double.word s r % 2 ^ 63 ≤ inf := fun r hr => by
    have hi2 : inf < 2 ^ 63 := by decide
    unfold Format.word
    rw [hsw]
    cases s
    · simp only [Bool.false_eq_true, if_false]; omega
    · simp only [if_true]; omega
  unfold Format.nearest
  split
  · exact hw 0 (Nat.zero_le _)
  · exact hw _ (by rw [← hi]; exact Nat.min_le_right _ _)
theorem sqrt_val {x : Nat} (hx : Fnt x) (hs : x / 2 ^ 63 % 2 = 0) : ∃ r, double.sqrt x = some r ∧ double.order r r = some .eq := by
  obtain ⟨s, m, p, h1, _, _, h2, hm, h3, h4⟩ := read_fin hx
  have hs0 : s = false := by rw [h3, hs]; rfl
  unfold Format.sqrt
  rw [h1, hs0]
  unfold Datum.root
  simp only []
  by_cases h0 : m = 0
  · rw [if_pos h0, Option.map_some, write_number]
    exact ⟨_, rfl, order_self (nearest_le_inf _ _ _)⟩
  · rw [if_neg h0, if_neg (by simp), Option.map_some, write_number]
    exact ⟨_, rfl, order_self (nearest_le_inf _ _ _)⟩
end Go.Fl
