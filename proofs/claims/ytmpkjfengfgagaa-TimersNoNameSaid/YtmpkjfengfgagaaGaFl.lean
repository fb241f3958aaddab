/- Floats of 64 bits: rounding rises with what is rounded, and leaves alone what a word holds. Plain. -/
import Ieee.Arith
namespace Go.Fl
open Ieee
set_option linter.unusedVariables false
set_option linter.unusedSimpArgs false

/-- n / g to the nearest, between two the even one. -/
def rne (n g : Nat) : Nat := n / g + (if g < 2 * (n % g) ∨ (g = 2 * (n % g) ∧ n / g % 2 = 1) then 1 else 0)
theorem rne_exact (k g : Nat) (hg : 0 < g) : rne (k * g) g = k := by
  unfold rne
  rw [Nat.mul_div_cancel _ hg, Nat.mul_mod_left, if_neg (by omega)]
  omega
theorem rne_scale (n g c : Nat) (hc : 0 < c) : rne (n * c) (g * c) = rne n g := by
  unfold rne
  rw [Nat.mul_div_mul_right _ _ hc, Nat.mul_mod_mul_right]
  have e1 : (g * c < 2 * (n % g * c)) ↔ (g < 2 * (n % g)) := by
    rw [← Nat.mul_assoc]; exact ⟨fun h => Nat.lt_of_mul_lt_mul_right h, fun h => Nat.mul_lt_mul_of_pos_right h hc⟩
  have e2 : (g * c = 2 * (n % g * c)) ↔ (g = 2 * (n % g)) := by
    rw [← Nat.mul_assoc]; exact ⟨fun h => Nat.eq_of_mul_eq_mul_right hc h, fun h => by rw [← h]⟩
  simp only [e1, e2]
theorem rne_le_succ (n g : Nat) : n / g ≤ rne n g ∧ rne n g ≤ n / g + 1 := by
  unfold rne; split <;> omega
theorem rne_mono {n n' g : Nat} (hg : 0 < g) (h : n ≤ n') : rne n g ≤ rne n' g := by
  have hd : n / g ≤ n' / g := Nat.div_le_div_right h
  rcases Nat.lt_or_ge (n / g) (n' / g) with hlt | hge
  · have h1 := (rne_le_succ n g).2
    have h2 := (rne_le_succ n' g).1
    omega
  · have he : n / g = n' / g := by omega
    have h1 := Nat.div_add_mod n g
    have h2 := Nat.div_add_mod n' g
    have hm : n % g ≤ n' % g := by rw [he] at h1; omega
    unfold rne
    rw [he]
    split <;> split <;> omega
theorem rne_le {n g M : Nat} (hg : 0 < g) (h : n ≤ M * g) : rne n g ≤ M := by
  have := rne_mono hg h
  rwa [rne_exact M g hg] at this
theorem le_rne {n g M : Nat} (hg : 0 < g) (h : M * g ≤ n) : M ≤ rne n g := by
  have := rne_mono hg h
  rwa [rne_exact M g hg] at this
theorem cut_eq (neg : Bool) (n drop : Nat) : Toward.even.cut neg n drop = rne n (2 ^ drop) := by
  unfold Toward.cut
  simp only [Nat.one_shiftLeft]
  by_cases h : drop ≤ n.log2 + 2
  · rw [Nat.min_eq_left h]
    unfold rne
    by_cases h1 : 2 ^ drop < 2 * (n % 2 ^ drop)
    · rw [if_pos (Or.inl h1)]; simp [h1]
    · by_cases h2 : 2 ^ drop = 2 * (n % 2 ^ drop) ∧ n / 2 ^ drop % 2 = 1
      · rw [if_pos (Or.inr h2)]; simp [h2.2, ← h2.1]
      · rw [if_neg (by rintro (h3 | h3); · exact h1 h3
                       · exact h2 h3)]
        by_cases h4 : 2 ^ drop = 2 * (n % 2 ^ drop)
        · have h5 : ¬ n / 2 ^ drop % 2 = 1 := fun h => h2 ⟨h4, h⟩
          simp [h1, h5]
        · simp [h1, h4]
  · have hn : n < 2 ^ (n.log2 + 1) := Nat.lt_log2_self
    rw [Nat.min_eq_right (by omega)]
    have h1 : 2 ^ (n.log2 + 2) = 2 * 2 ^ (n.log2 + 1) := by rw [Nat.pow_succ]; omega
    have h2 : 2 ^ (n.log2 + 2) ≤ 2 ^ drop := Nat.pow_le_pow_right (by omega) (by omega)
    unfold rne
    have p1 : n < 2 ^ drop := by omega
    have p2 : n < 2 ^ (n.log2 + 2) := by omega
    have p3 : 2 * n < 2 ^ (n.log2 + 2) := by omega
    have p4 : 2 * n < 2 ^ drop := by omega
    rw [Nat.div_eq_of_lt p1, Nat.mod_eq_of_lt p1, Nat.div_eq_of_lt p2, Nat.mod_eq_of_lt p2, if_neg (by omega)]
    have a1 : ¬ (2 ^ (n.log2 + 2) < 2 * n) := by omega
    simp [a1]

def inf : Nat := 2047 * 2 ^ 52
def lo : Nat := 2926
theorem lo_eq : lo = 2926 := rfl
/-- The least digit that is kept of x, in units of 2^-4000. -/
def lst (x : Nat) : Nat := max (x.log2 - 52) lo
/-- The rung of x units. -/
def rg (x : Nat) : Nat := if x = 0 then 0 else min ((lst x - lo) * 2 ^ 52 + rne x (2 ^ lst x)) inf
theorem log2_mul_pow (m k : Nat) (hm : m ≠ 0) : (m * 2 ^ k).log2 = m.log2 + k := by
  have hp : 0 < 2 ^ k := Nat.two_pow_pos k
  have hne : m * 2 ^ k ≠ 0 := Nat.mul_ne_zero hm (by omega)
  apply Nat.le_antisymm
  · have h1 : m * 2 ^ k < 2 ^ (m.log2 + k + 1) := by
      have : m < 2 ^ (m.log2 + 1) := Nat.lt_log2_self
      calc m * 2 ^ k < 2 ^ (m.log2 + 1) * 2 ^ k := Nat.mul_lt_mul_of_pos_right this hp
        _ = 2 ^ (m.log2 + k + 1) := by rw [← Nat.pow_add]; congr 1; omega
    have := (Nat.log2_lt hne).2 h1
    omega
  · refine (Nat.le_log2 hne).2 ?_
    rw [Nat.pow_add]
    exact Nat.mul_le_mul_right _ (Nat.log2_self_le hm)
theorem nearest_rg (neg : Bool) (mag : Nat) (place : Int) (hp : -4000 ≤ place) : double.nearest neg mag place = double.word neg (rg (mag * 2 ^ (place + 4000).toNat)) := by
  unfold Format.nearest rg
  by_cases h0 : mag = 0
  · subst h0
    simp
  · have hx : mag * 2 ^ (place + 4000).toNat ≠ 0 := Nat.mul_ne_zero h0 (by have := Nat.two_pow_pos (place + 4000).toNat; omega)
    rw [if_neg h0, if_neg hx]
    obtain ⟨k, hk⟩ : ∃ k : Nat, place = (k : Int) - 4000 := ⟨(place + 4000).toNat, by omega⟩
    subst hk
    rw [show ((k : Int) - 4000 + 4000).toNat = k by omega]
    have hl : double.leastPlace = -1074 := by decide
    have hf : double.fractionBits = 52 := rfl
    have hb : double.binade = 2 ^ 52 := rfl
    have hi : double.infRung = inf := by decide
    rw [hl, hf, hb, hi]
    have hlog := log2_mul_pow mag k h0
    have hlo := lo_eq
    have hlast : max ((k : Int) - 4000 + (mag.log2 : Int) - ((52 : Nat) : Int)) (-1074) = (lst (mag * 2 ^ k) : Int) - 4000 := by
      unfold lst
      rw [hlog]
      omega
    simp only [hlast]
    generalize hL : lst (mag * 2 ^ k) = L at *
    have e1 : ((L : Int) - 4000 - -1074).toNat = L - lo := by omega
    have e2 : ((k : Int) - 4000 - ((L : Int) - 4000)).toNat = k - L := by omega
    have e3 : ((L : Int) - 4000 - ((k : Int) - 4000)).toNat = L - k := by omega
    rw [e1, e2, e3, cut_eq, Nat.shiftLeft_eq]
    congr 3
    by_cases hkl : k ≤ L
    · rw [show k - L = 0 by omega, Nat.pow_zero, Nat.mul_one]
      have := rne_scale mag (2 ^ (L - k)) (2 ^ k) (Nat.two_pow_pos k)
      rw [← Nat.pow_add, show L - k + k = L by omega] at this
      exact this.symm
    · rw [show L - k = 0 by omega, Nat.pow_zero]
      have h1 : rne (mag * 2 ^ (k - L)) 1 = mag * 2 ^ (k - L) := by
        have := rne_exact (mag * 2 ^ (k - L)) 1 (by omega)
        rwa [Nat.mul_one] at this
      have h2 : mag * 2 ^ k = mag * 2 ^ (k - L) * 2 ^ L := by
        rw [Nat.mul_assoc, ← Nat.pow_add, show k - L + L = k by omega]
      rw [h1, h2, rne_exact _ _ (Nat.two_pow_pos L)]
theorem kept_ge {x : Nat} (hx : x ≠ 0) (h : lo < lst x) : 2 ^ 52 ≤ rne x (2 ^ lst x) := by
  refine le_rne (Nat.two_pow_pos _) ?_
  have hl : lst x + 52 = x.log2 := by unfold lst at *; omega
  rw [← Nat.pow_add, Nat.add_comm, hl]
  exact Nat.log2_self_le hx
theorem kept_le {x : Nat} (hx : x ≠ 0) : rne x (2 ^ lst x) ≤ 2 ^ 53 := by
  refine rne_le (Nat.two_pow_pos _) ?_
  have h1 : x < 2 ^ (x.log2 + 1) := Nat.lt_log2_self
  have h2 : 2 ^ (x.log2 + 1) ≤ 2 ^ (53 + lst x) := Nat.pow_le_pow_right (by omega) (by unfold lst; omega)
  rw [← Nat.pow_add]
  omega
theorem log2_mono {x y : Nat} (hx : x ≠ 0) (h : x ≤ y) : x.log2 ≤ y.log2 := (Nat.le_log2 (by omega)).2 (Nat.le_trans (Nat.log2_self_le hx) h)
/-- Rounding rises. -/
theorem rg_mono {x y : Nat} (h : x ≤ y) : rg x ≤ rg y := by
  unfold rg
  by_cases hx : x = 0
  · rw [if_pos hx]; exact Nat.zero_le _
  · have hy : y ≠ 0 := by omega
    rw [if_neg hx, if_neg hy]
    have hll : lst x ≤ lst y := by have := log2_mono hx h; unfold lst; omega
    have key : (lst x - lo) * 2 ^ 52 + rne x (2 ^ lst x) ≤ (lst y - lo) * 2 ^ 52 + rne y (2 ^ lst y) := by
      rcases Nat.lt_or_ge (lst x) (lst y) with hlt | hge
      · have h1 := kept_le hx
        have h2 : lo ≤ lst x := by unfold lst; omega
        have h3 := kept_ge hy (by omega)
        omega
      · have he : lst x = lst y := by omega
        rw [he]
        have := rne_mono (Nat.two_pow_pos (lst y)) h
        omega
    omega
/-- What a rung holds, in units. -/
def xr (r : Nat) : Nat := if r < 2 ^ 52 then r * 2 ^ lo else (2 ^ 52 + r % 2 ^ 52) * 2 ^ (lo + (r / 2 ^ 52 - 1))
theorem log2_of {x k : Nat} (h1 : 2 ^ k ≤ x) (h2 : x < 2 ^ (k + 1)) : x.log2 = k := by
  have hx : x ≠ 0 := by have := Nat.two_pow_pos k; omega
  have a := (Nat.le_log2 hx).2 h1
  have b := (Nat.log2_lt hx).2 h2
  omega
theorem rg_xr {r : Nat} (h : r < inf) : rg (xr r) = r := by
  unfold xr
  split
  · rename_i hr
    by_cases h0 : r = 0
    · subst h0; simp [rg]
    · have hx : r * 2 ^ lo ≠ 0 := Nat.mul_ne_zero h0 (by have := Nat.two_pow_pos lo; omega)
      have hlog := log2_mul_pow r lo h0
      have hr2 : r.log2 < 52 := (Nat.log2_lt h0).2 hr
      have hl : lst (r * 2 ^ lo) = lo := by unfold lst; rw [hlog]; omega
      unfold rg
      rw [if_neg hx, hl, rne_exact _ _ (Nat.two_pow_pos _)]
      omega
  · rename_i hr
    generalize hq : r / 2 ^ 52 = q
    generalize ht : r % 2 ^ 52 = t
    have hrt := Nat.div_add_mod r (2 ^ 52)
    have htl : t < 2 ^ 52 := by rw [← ht]; exact Nat.mod_lt _ (by omega)
    rw [hq, ht] at hrt
    have hq1 : 1 ≤ q := by omega
    have hm : (2 ^ 52 + t).log2 = 52 := log2_of (by omega) (by omega)
    have hx : (2 ^ 52 + t) * 2 ^ (lo + (q - 1)) ≠ 0 := Nat.mul_ne_zero (by omega) (by have := Nat.two_pow_pos (lo + (q - 1)); omega)
    have hlog := log2_mul_pow (2 ^ 52 + t) (lo + (q - 1)) (by omega)
    have hl : lst ((2 ^ 52 + t) * 2 ^ (lo + (q - 1))) = lo + (q - 1) := by unfold lst; rw [hlog, hm]; omega
    unfold rg
    rw [if_neg hx, hl, rne_exact _ _ (Nat.two_pow_pos _)]
    unfold inf at *
    omega
theorem exact_parts {m k : Nat} (h0 : m ≠ 0) (hm : m < 2 ^ 53) (hk : lo ≤ k) (hk2 : k ≤ lo + 1900) : ∃ L K, lo ≤ L ∧ L ≤ k ∧ L ≤ lo + 1900 ∧ m * 2 ^ k = K * 2 ^ L ∧ K < 2 ^ 53 ∧ (lo < L → 2 ^ 52 ≤ K) ∧ lst (m * 2 ^ k) = L := by
  have hlm : m.log2 ≤ 52 := by have := (Nat.log2_lt h0).2 hm; omega
  have hlog := log2_mul_pow m k h0
  have hL : lst (m * 2 ^ k) = max (m.log2 + k - 52) lo := by unfold lst; rw [hlog]
  generalize hLL : max (m.log2 + k - 52) lo = L at hL
  have hLk : L ≤ k := by omega
  have hL2 : lo ≤ L := by omega
  refine ⟨L, m * 2 ^ (k - L), hL2, hLk, by omega, ?_, ?_, ?_, hL⟩
  · rw [Nat.mul_assoc, ← Nat.pow_add, Nat.sub_add_cancel hLk]
  · have h2 : m < 2 ^ (m.log2 + 1) := Nat.lt_log2_self
    have h3 : m * 2 ^ (k - L) < 2 ^ (m.log2 + 1) * 2 ^ (k - L) := Nat.mul_lt_mul_of_pos_right h2 (Nat.two_pow_pos _)
    rw [← Nat.pow_add] at h3
    have h4 : 2 ^ (m.log2 + 1 + (k - L)) ≤ 2 ^ 53 := Nat.pow_le_pow_right (by omega) (by omega)
    exact Nat.lt_of_lt_of_le h3 h4
  · intro hlt
    have h2 : 2 ^ m.log2 ≤ m := Nat.log2_self_le h0
    have h3 : 2 ^ m.log2 * 2 ^ (k - L) ≤ m * 2 ^ (k - L) := Nat.mul_le_mul_right _ h2
    rw [← Nat.pow_add] at h3
    have h4 : 2 ^ 52 ≤ 2 ^ (m.log2 + (k - L)) := Nat.pow_le_pow_right (by omega) (by omega)
    exact Nat.le_trans h4 h3
theorem xr_parts {L K : Nat} (hL : lo ≤ L) (hK : K < 2 ^ 53) (h : lo < L → 2 ^ 52 ≤ K) : xr ((L - lo) * 2 ^ 52 + K) = K * 2 ^ L := by
  unfold xr
  rcases Nat.lt_or_ge lo L with hl | hl
  · have h := h hl
    have e1 : ((L - lo) * 2 ^ 52 + K) % 2 ^ 52 = K - 2 ^ 52 := by omega
    have e2 : ((L - lo) * 2 ^ 52 + K) / 2 ^ 52 = L - lo + 1 := by omega
    have e3 : 2 ^ 52 + (K - 2 ^ 52) = K := by omega
    have e4 : lo + (L - lo + 1 - 1) = L := by omega
    rw [if_neg (by omega), e1, e2, e3, e4]
  · have hl2 : L = lo := by omega
    rw [hl2, Nat.sub_self, Nat.zero_mul, Nat.zero_add]
    by_cases hk : K < 2 ^ 52
    · rw [if_pos hk]
    · have e1 : K % 2 ^ 52 = K - 2 ^ 52 := by omega
      have e2 : K / 2 ^ 52 = 1 := by omega
      have e3 : 2 ^ 52 + (K - 2 ^ 52) = K := by omega
      rw [if_neg hk, e1, e2, e3, Nat.sub_self, Nat.add_zero]
/-- Of what fits, rounding leaves just that. -/
theorem rg_exact {m k : Nat} (hm : m < 2 ^ 53) (hk : lo ≤ k) (hk2 : k ≤ lo + 1900) : xr (rg (m * 2 ^ k)) = m * 2 ^ k ∧ rg (m * 2 ^ k) < inf := by
  by_cases h0 : m = 0
  · subst h0
    rw [Nat.zero_mul]
    have e : rg 0 = 0 := by unfold rg; rw [if_pos rfl]
    have e2 : xr 0 = 0 := by unfold xr; rw [if_pos (by omega), Nat.zero_mul]
    rw [e, e2]
    exact ⟨rfl, by unfold inf; omega⟩
  · obtain ⟨L, K, h1, h2, h3, h4, h5, h6, h7⟩ := exact_parts h0 hm hk hk2
    have hx : m * 2 ^ k ≠ 0 := Nat.mul_ne_zero h0 (by have := Nat.two_pow_pos k; omega)
    have hrg : rg (m * 2 ^ k) = (L - lo) * 2 ^ 52 + K := by
      unfold rg
      rw [if_neg hx, h7, h4, rne_exact _ _ (Nat.two_pow_pos L)]
      unfold inf
      omega
    rw [hrg, h4]
    exact ⟨xr_parts h1 h5 h6, by unfold inf; omega⟩
theorem xr_mono {r s : Nat} (h : r ≤ s) : xr r ≤ xr s := by
  unfold xr
  split <;> split
  · exact Nat.mul_le_mul_right _ h
  · rename_i h1 h2
    refine Nat.mul_le_mul (by omega) (Nat.pow_le_pow_right (by omega) (by omega))
  · omega
  · rename_i h1 h2
    have hr := Nat.div_add_mod r (2 ^ 52)
    have hs := Nat.div_add_mod s (2 ^ 52)
    have hd : r / 2 ^ 52 ≤ s / 2 ^ 52 := Nat.div_le_div_right h
    have hrm : r % 2 ^ 52 < 2 ^ 52 := Nat.mod_lt _ (by omega)
    rcases Nat.lt_or_ge (r / 2 ^ 52) (s / 2 ^ 52) with hlt | hge
    · calc (2 ^ 52 + r % 2 ^ 52) * 2 ^ (lo + (r / 2 ^ 52 - 1)) ≤ (2 ^ 52 * 2) * 2 ^ (lo + (r / 2 ^ 52 - 1)) := Nat.mul_le_mul_right _ (by omega)
        _ = 2 ^ 52 * 2 ^ (lo + (r / 2 ^ 52 - 1) + 1) := by rw [Nat.mul_assoc, ← Nat.pow_succ']
        _ ≤ (2 ^ 52 + s % 2 ^ 52) * 2 ^ (lo + (s / 2 ^ 52 - 1)) := Nat.mul_le_mul (by omega) (Nat.pow_le_pow_right (by omega) (by omega))
    · have he : r / 2 ^ 52 = s / 2 ^ 52 := by omega
      rw [he] at hr ⊢
      exact Nat.mul_le_mul_right _ (by omega)

/-- A word that holds a number. -/
def Fnt (w : Nat) : Prop := w % 2 ^ 63 < inf
/-- What it holds, in units of 2^-4000, with its sign. -/
def vu (w : Nat) : Int := if w / 2 ^ 63 % 2 = 1 then -(xr (w % 2 ^ 63) : Int) else (xr (w % 2 ^ 63) : Int)
theorem read_fin {w : Nat} (h : Fnt w) : ∃ s m, ∃ p : Nat, double.read w = .number s m ((p : Int) - 4000) ∧ lo ≤ p ∧ p ≤ lo + 2046 ∧ (if s then -((m * 2 ^ p : Nat) : Int) else ((m * 2 ^ p : Nat) : Int)) = vu w ∧ m < 2 ^ 53 ∧ s = (w / 2 ^ 63 % 2 == 1) ∧ m * 2 ^ p = xr (w % 2 ^ 63) := by
  have hsw : double.signWeight = 2 ^ 63 := by decide
  have hb : double.binade = 2 ^ 52 := rfl
  have hi : double.infRung = inf := by decide
  have hl : double.leastPlace = (lo : Int) - 4000 := by decide
  unfold Fnt at h
  unfold Format.read vu
  rw [hsw, hb, hi, hl]
  simp only []
  generalize w % 2 ^ 63 = r at *
  have hs : (if (w / 2 ^ 63 % 2 == 1) = true then -((xr r : Nat) : Int) else ((xr r : Nat) : Int)) = if w / 2 ^ 63 % 2 = 1 then -(xr r : Int) else (xr r : Int) := by
    by_cases h1 : w / 2 ^ 63 % 2 = 1 <;> simp [h1]
  by_cases hr : r < 2 ^ 52
  · rw [if_pos hr]
    refine ⟨_, r, lo, rfl, Nat.le_refl _, by omega, ?_, by omega, rfl, ?_⟩
    · rw [← hs]; unfold xr; rw [if_pos hr]
    · unfold xr; rw [if_pos hr]
  · rw [if_neg hr, if_pos h]
    have e : (lo : Int) - 4000 + ((r / 2 ^ 52 - 1 : Nat) : Int) = ((lo + (r / 2 ^ 52 - 1) : Nat) : Int) - 4000 := by omega
    rw [e]
    have hrm : r % 2 ^ 52 < 2 ^ 52 := Nat.mod_lt _ (by omega)
    refine ⟨_, 2 ^ 52 + r % 2 ^ 52, lo + (r / 2 ^ 52 - 1), rfl, by omega, ?_, ?_, by omega, rfl, ?_⟩
    · unfold inf at h; omega
    · rw [← hs]; unfold xr; rw [if_neg hr]
    · unfold xr; rw [if_neg hr]
theorem word_fin (s : Bool) {r : Nat} (h : r < inf) : Fnt (double.word s r) ∧ vu (double.word s r) = (if s then -(xr r : Int) else (xr r : Int)) ∧ double.word s r % 2 ^ 63 = r ∧ double.word s r < 2 ^ 64 := by
  have hsw : double.signWeight = 2 ^ 63 := by decide
  have hi : inf < 2 ^ 63 := by decide
  unfold Format.word Fnt vu
  rw [hsw]
  cases s
  · have e1 : r % 2 ^ 63 = r := Nat.mod_eq_of_lt (by omega)
    have e2 : r / 2 ^ 63 = 0 := Nat.div_eq_of_lt (by omega)
    simp only [Bool.false_eq_true, if_false, e1, e2]
    exact ⟨h, by simp, trivial, by omega⟩
  · have e1 : (2 ^ 63 + r) % 2 ^ 63 = r := by omega
    have e2 : (2 ^ 63 + r) / 2 ^ 63 = 1 := by omega
    simp only [if_true, e1, e2]
    exact ⟨h, by simp, trivial, by omega⟩
/-- The nearest word of a number of units. -/
theorem nearest_fin (s : Bool) (mag : Nat) (p : Nat) (h : rg (mag * 2 ^ p) < inf) :
    Fnt (double.nearest s mag ((p : Int) - 4000)) ∧ vu (double.nearest s mag ((p : Int) - 4000)) = (if s then -(xr (rg (mag * 2 ^ p)) : Int) else (xr (rg (mag * 2 ^ p)) : Int)) ∧ double.nearest s mag ((p : Int) - 4000) % 2 ^ 63 = rg (mag * 2 ^ p) := by
  rw [nearest_rg s mag _ (by omega), show ((p : Int) - 4000 + 4000).toNat = p by omega]
  have := word_fin s h
  exact ⟨this.1, this.2.1, this.2.2.1⟩

/-- The word of a whole number of units, rounded. -/
def rd (z : Int) : Int := if z < 0 then -(xr (rg z.natAbs) : Int) else (xr (rg z.natAbs) : Int)
theorem rg_zero : rg 0 = 0 := by unfold rg; rw [if_pos rfl]
theorem xr_zero : xr 0 = 0 := by unfold xr; rw [if_pos (by omega), Nat.zero_mul]
theorem signed_val (u : Bool) (k b c : Nat) (hc : b ≤ c) : signed u k (c - b) * ((2 ^ b : Nat) : Int) = (if u then -((k * 2 ^ c : Nat) : Int) else ((k * 2 ^ c : Nat) : Int)) := by
  have e : k * 2 ^ c = k * 2 ^ (c - b) * 2 ^ b := by rw [Nat.mul_assoc, ← Nat.pow_add, Nat.sub_add_cancel hc]
  unfold signed
  rw [Nat.shiftLeft_eq, e]
  cases u
  · simp only [Bool.false_eq_true, if_false, Int.natCast_mul]
  · simp only [if_true, Int.natCast_mul, Int.neg_mul]
theorem sum_is (s t : Bool) (m n p q b : Nat) (hb : min p q = b) (T : Int) (hT : signed s m (p - b) + signed t n (q - b) = T) :
    (Datum.number s m ((p : Int) - 4000)).sum (Datum.number t n ((q : Int) - 4000)) = some (Datum.number (if T = 0 then s && t else decide (T < 0)) T.natAbs ((b : Int) - 4000)) := by
  have hb' : min ((p : Int) - 4000) ((q : Int) - 4000) = (b : Int) - 4000 := by omega
  have e1 : (((p : Int) - 4000) - ((b : Int) - 4000)).toNat = p - b := by omega
  have e2 : (((q : Int) - 4000) - ((b : Int) - 4000)).toNat = q - b := by omega
  unfold Datum.sum
  simp only [hb', e1, e2, hT]
theorem neg_iff (T z : Int) (b : Nat) (h : T * ((2 ^ b : Nat) : Int) = z) : z < 0 ↔ T < 0 := by
  have hpb : 0 < ((2 ^ b : Nat) : Int) := Int.natCast_pos.2 (Nat.two_pow_pos b)
  generalize ((2 ^ b : Nat) : Int) = c at *
  rw [← h]
  constructor
  · intro h1
    by_cases h2 : T < 0
    · exact h2
    · have := Int.mul_nonneg (by omega : 0 ≤ T) (Int.le_of_lt hpb); omega
  · intro h1
    exact Int.mul_neg_of_neg_of_pos h1 hpb
theorem sum_val (s t : Bool) (m n p q : Nat) (z : Int) (hz : (if s then -((m * 2 ^ p : Nat) : Int) else ((m * 2 ^ p : Nat) : Int)) + (if t then -((n * 2 ^ q : Nat) : Int) else ((n * 2 ^ q : Nat) : Int)) = z) (h : rg z.natAbs < inf) :
    ∃ u k b, (Datum.number s m ((p : Int) - 4000)).sum (Datum.number t n ((q : Int) - 4000)) = some (Datum.number u k ((b : Nat) - 4000)) ∧ k * 2 ^ b = z.natAbs ∧ (z < 0 → u = true) ∧ (0 < z → u = false) ∧ (s = false → t = false → u = false) := by
  obtain ⟨b, hb⟩ : ∃ b, min p q = b := ⟨_, rfl⟩
  obtain ⟨T, hT⟩ : ∃ T : Int, signed s m (p - b) + signed t n (q - b) = T := ⟨_, rfl⟩
  have hTz : T * ((2 ^ b : Nat) : Int) = z := by rw [← hT, Int.add_mul, signed_val s m b p (by omega), signed_val t n b q (by omega)]; exact hz
  have hneg := neg_iff T z b hTz
  refine ⟨_, _, _, sum_is s t m n p q b hb T hT, ?_, fun h1 => ?_, fun h1 => ?_, fun h1 h2 => ?_⟩
  · rw [← hTz, Int.natAbs_mul, Int.natAbs_natCast]
  · have h2 := hneg.1 h1
    rw [if_neg (by omega), decide_eq_true h2]
  · have h2 : ¬ T < 0 := fun h => by have := hneg.2 h; omega
    have h3 : T ≠ 0 := fun h => by rw [h, Int.zero_mul] at hTz; omega
    rw [if_neg h3, decide_eq_false h2]
  · have hTn : ¬ T < 0 := by
      rw [← hT, h1, h2]
      have a1 : signed false m (p - b) = ((m <<< (p - b) : Nat) : Int) := rfl
      have a2 : signed false n (q - b) = ((n <<< (q - b) : Nat) : Int) := rfl
      rw [a1, a2]
      generalize m <<< (p - b) = c1
      generalize n <<< (q - b) = c2
      omega
    rw [h1, h2, decide_eq_false hTn]
    simp
/-- What is written of a number of units. -/
theorem write_val (u : Bool) (k b : Nat) (z : Int) (hk : k * 2 ^ b = z.natAbs) (h1 : z < 0 → u = true) (h2 : 0 < z → u = false) (h : rg z.natAbs < inf) :
    Fnt (double.nearest u k ((b : Int) - 4000)) ∧ vu (double.nearest u k ((b : Int) - 4000)) = rd z ∧ (u = false → double.nearest u k ((b : Int) - 4000) < 2 ^ 63) := by
  have hn := nearest_fin u k b (by rw [hk]; exact h)
  rw [hk] at hn
  refine ⟨hn.1, ?_, fun hu => ?_⟩
  · rw [hn.2.1]
    unfold rd
    by_cases hz : z < 0
    · rw [if_pos hz, h1 hz, if_pos rfl]
    · rw [if_neg hz]
      by_cases hz0 : z = 0
      · rw [hz0, Int.natAbs_zero, rg_zero, xr_zero]
        cases u <;> rfl
      · rw [h2 (by omega), if_neg (by simp)]
  · have hw := nearest_rg u k ((b : Int) - 4000) (by omega)
    rw [show ((b : Int) - 4000 + 4000).toNat = b by omega, hk, hu] at hw
    rw [hu, hw]
    have hi : inf < 2 ^ 63 := by decide
    generalize rg z.natAbs = c at *
    unfold Format.word
    rw [if_neg (by simp)]
    omega
theorem add_val {x y : Nat} (hx : Fnt x) (hy : Fnt y) (h : rg (vu x + vu y).natAbs < inf) : ∃ r, double.add x y = some r ∧ Fnt r ∧ vu r = rd (vu x + vu y) ∧ (x / 2 ^ 63 % 2 = 0 → y / 2 ^ 63 % 2 = 0 → r < 2 ^ 63) := by
  obtain ⟨s, m, p, h1, _, _, h2, _, h3, _⟩ := read_fin hx
  obtain ⟨t, n, q, g1, _, _, g2, _, g3, _⟩ := read_fin hy
  obtain ⟨u, k, b, r1, r2, r3, r4, r5⟩ := sum_val s t m n p q (vu x + vu y) (by rw [h2, g2]) h
  have hw := write_val u k b _ r2 r3 r4 h
  refine ⟨double.nearest u k ((b : Int) - 4000), ?_, hw.1, hw.2.1, fun a b => hw.2.2 (r5 (by rw [h3, a]; rfl) (by rw [g3, b]; rfl))⟩
  unfold Format.add
  rw [h1, g1, r1, Option.map_some]
  rfl
theorem sub_val {x y : Nat} (hx : Fnt x) (hy : Fnt y) (h : rg (vu x - vu y).natAbs < inf) : ∃ r, double.sub x y = some r ∧ Fnt r ∧ vu r = rd (vu x - vu y) := by
  obtain ⟨s, m, p, h1, _, _, h2, _⟩ := read_fin hx
  obtain ⟨t, n, q, g1, _, _, g2, _⟩ := read_fin hy
  obtain ⟨u, k, b, r1, r2, r3, r4, _⟩ := sum_val s (!t) m n p q (vu x - vu y) (by
    rw [h2, ← g2]
    generalize n * 2 ^ q = c
    cases t <;> simp <;> omega) h
  have hw := write_val u k b _ r2 r3 r4 h
  refine ⟨double.nearest u k ((b : Int) - 4000), ?_, hw.1, hw.2.1⟩
  unfold Format.sub
  rw [h1, g1]
  show Option.map double.write ((Datum.number s m ((p : Int) - 4000)).sum (Datum.number (!t) n ((q : Int) - 4000))) = _
  rw [r1, Option.map_some]
  rfl
end Go.Fl
