/- Samples that are alike: plain laws. -/
import Derived.Test.YtgoimoaeeiobnaaGaLY
import Derived.Test.YtgoimoaeeiobnaaGaSo
import Derived.Test.YtgoimoaeeiobnaaGaDx
namespace Go.Proofs.Ytgoimoaeeiobnaa.Ga
open Go.RowKit Go.Hp Go.Fl
set_option linter.unusedSimpArgs false
set_option linter.unusedVariables false
set_option maxRecDepth 100000
def rep (k : Nat) (x : Int) : List Int := List.replicate k x
theorem rep_len (k : Nat) (x : Int) : (rep k x).length = k := by unfold rep; simp
theorem rep_snoc (k : Nat) (x : Int) : rep (k + 1) x = rep k x ++ [x] := by unfold rep; exact List.replicate_succ'
theorem rep_mem {k : Nat} {x y : Int} (h : y ∈ rep k x) : y = x := by unfold rep at h; exact (List.mem_replicate.1 h).2
theorem rep_get (k i : Nat) (x : Int) (h : i < k) : (rep k x).getD i 0 = x := by unfold rep; simp [List.getD, h]
theorem rep_i64 (k : Nat) {x : Int} (h : x.natAbs ≤ 2 ^ 40) : I64 (rep k x) := by
  intro y hy
  rw [rep_mem hy]
  omega
theorem vu_zero : Fnt 0 ∧ vu 0 = 0 := by
  have hv : vu 0 = 0 := by unfold vu; rw [if_neg (by omega), Nat.zero_mod, xr_zero]; rfl
  exact ⟨by unfold Fnt inf; omega, hv⟩
theorem flat_sum (x : Int) (hx : x.natAbs ≤ 2 ^ 40) (k : Nat) (hk : k ≤ 4096) : Fnt (sF (rep k x)) ∧ vu (sF (rep k x)) = (k * x) * (un : Int) := by
  induction k with
  | zero =>
    have h0 : sF (rep 0 x) = 0 := rfl
    rw [h0]
    refine ⟨vu_zero.1, ?_⟩
    rw [vu_zero.2]
    simp
  | succ k ih =>
    obtain ⟨i1, i2⟩ := ih (by omega)
    have hf := fi_val x (by omega)
    have hfe := fi_exact x (by omega)
    have hS : vu (sF (rep k x)) + vu (fi x) = (((k + 1 : Nat) : Int) * x) * (un : Int) := by
      rw [i2, hfe, ← Int.add_mul]
      congr 1
      rw [Int.natCast_add, Int.add_mul]
      simp
    have hb : (((k + 1 : Nat) : Int) * x).natAbs < 2 ^ 53 := by
      rw [Int.natAbs_mul, Int.natAbs_natCast]
      have h1 : (k + 1) * x.natAbs ≤ 4096 * 2 ^ 40 := Nat.mul_le_mul hk hx
      omega
    have hok : Ok ((((k + 1 : Nat) : Int) * x) * (un : Int)).natAbs := by
      rw [mul_un_natAbs]
      exact ok_int hb
    have hr := rd_ok hok
    obtain ⟨r, r1, r2, r3, _⟩ := add_val i1 hf.1 (by rw [hS]; exact hr.2)
    have he : sF (rep (k + 1) x) = r := by rw [rep_snoc, sF_snoc, r1]; rfl
    rw [he]
    exact ⟨r2, by rw [r3, hS, hr.1]⟩
theorem flat_mean (x : Int) (hx : x.natAbs ≤ 2 ^ 40) (c : Nat) (h1 : 1 ≤ c) (hc : c ≤ 4096) : Fnt (mF (rep c x)) ∧ vu (mF (rep c x)) = x * (un : Int) := by
  obtain ⟨s1, s2⟩ := flat_sum x hx c hc
  have hf := fi_val (c : Int) (by simp; omega)
  have hfe := fi_exact (c : Int) (by simp; omega)
  have hy : (vu (fi (c : Int))).natAbs = c * un := by rw [hfe, mul_un_natAbs]; simp
  have hx' : (vu (sF (rep c x))).natAbs = x.natAbs * (c * un) := by
    rw [s2, mul_un_natAbs, Int.natAbs_mul, Int.natAbs_natCast]
    simp only [Nat.mul_assoc, Nat.mul_left_comm, Nat.mul_comm]
  obtain ⟨u, r, d1, d2, d3, d4⟩ := div_even s1 hf.1 h1 hy hx' (by omega)
  have he : mF (rep c x) = r := by unfold mF; rw [rep_len, d1]; rfl
  rw [he]
  refine ⟨d2, ?_⟩
  rw [d3]
  have hfs : fi (c : Int) / 2 ^ 63 % 2 = 0 := by
    have := hf.2.2 (by omega)
    rw [Nat.div_eq_of_lt this]
  have hsg := sign_vu s1
  have hun := un_pos
  have hc' : (1 : Int) ≤ (c : Int) := by omega
  have hxx : ((x.natAbs * un : Nat) : Int) = (x.natAbs : Int) * (un : Int) := by simp
  rcases Nat.mod_two_eq_zero_or_one (sF (rep c x) / 2 ^ 63) with h | h
  · have hu : u = false := by rw [d4, hfs, h]; rfl
    have h2 := hsg.2 h
    rw [s2] at h2
    have h3 : 0 ≤ x := by
      refine Decidable.byContradiction fun hn => ?_
      have : (c : Int) * x < 0 := Int.mul_neg_of_pos_of_neg (by omega) (by omega)
      have := Int.mul_neg_of_neg_of_pos this (by omega : (0 : Int) < (un : Int))
      omega
    rw [hu, if_neg (by simp), hxx, Int.natAbs_of_nonneg h3]
  · have hu : u = true := by rw [d4, hfs, h]; rfl
    have h2 := hsg.1 h
    rw [s2] at h2
    have h3 : x ≤ 0 := by
      refine Decidable.byContradiction fun hn => ?_
      have : 0 < (c : Int) * x := Int.mul_pos (by omega) (by omega)
      have := Int.mul_pos this (by omega : (0 : Int) < (un : Int))
      omega
    rw [hu, if_pos rfl, hxx, ← Int.neg_mul]
    congr 1
    omega
theorem flat_sub {m : Nat} {x : Int} (hx : x.natAbs ≤ 2 ^ 40) (hm : Fnt m) (hv : vu m = x * (un : Int)) : ∃ d, Ieee.double.sub (fi x) m = some d ∧ Fnt d ∧ vu d = 0 := by
  have hf := fi_val x (by omega)
  have hfe := fi_exact x (by omega)
  have hD : vu (fi x) - vu m = 0 := by rw [hfe, hv]; omega
  obtain ⟨d, d1, d2, d3⟩ := sub_val hf.1 hm (by rw [hD]; exact (vu_zero.2 ▸ (vu_rg vu_zero.1).1))
  rw [hD, rd_zero] at d3
  exact ⟨d, d1, d2, d3⟩
theorem ok_zero : Ok 0 := by have := ok_int (m := 0) (by omega); rwa [Nat.zero_mul] at this
theorem flat_sq {m : Nat} {x : Int} (hx : x.natAbs ≤ 2 ^ 40) (hm : Fnt m) (hv : vu m = x * (un : Int)) : Fnt (qF m x) ∧ vu (qF m x) = 0 ∧ qF m x / 2 ^ 63 % 2 = 0 := by
  obtain ⟨d, d1, d2, d3⟩ := flat_sub hx hm hv
  obtain ⟨u, k, b, e1, e2, e3⟩ := mul_val d2 d2
  have hu : u = false := by rw [e2]; simp
  have hB : k * 2 ^ b ≤ 0 := by
    rw [d3] at e3
    rw [Int.natAbs_zero, Nat.zero_mul] at e3
    rcases Nat.mul_eq_zero.1 e3 with h | h
    · omega
    · have := un_pos; omega
  have hn := nearest_of (u := u) ok_zero hB
  have hd : dF m x = d := by unfold dF; rw [d1]; rfl
  have hq : qF m x = Ieee.double.nearest u k ((b : Int) - 4000) := by unfold qF; rw [hd, e1]; rfl
  rw [hq]
  exact ⟨hn.1, by have := hn.2.1; omega, by rw [Nat.div_eq_of_lt (hn.2.2.1 hu).2]⟩
theorem flat_sqs {m : Nat} {x : Int} (hx : x.natAbs ≤ 2 ^ 40) (hm : Fnt m) (hv : vu m = x * (un : Int)) (k : Nat) : Fnt (vF m (rep k x)) ∧ vu (vF m (rep k x)) = 0 ∧ vF m (rep k x) / 2 ^ 63 % 2 = 0 := by
  induction k with
  | zero =>
    have h0 : vF m (rep 0 x) = 0 := rfl
    rw [h0]
    exact ⟨vu_zero.1, vu_zero.2, by omega⟩
  | succ k ih =>
    obtain ⟨i1, i2, i3⟩ := ih
    obtain ⟨q1, q2, q3⟩ := flat_sq hx hm hv
    have hS : vu (vF m (rep k x)) + vu (qF m x) = 0 := by rw [i2, q2]; rfl
    obtain ⟨r, r1, r2, r3, r4⟩ := add_val i1 q1 (by rw [hS]; exact (vu_zero.2 ▸ (vu_rg vu_zero.1).1))
    have he : vF m (rep (k + 1) x) = r := by rw [rep_snoc, vF_snoc, r1]; rfl
    rw [he]
    exact ⟨r2, by rw [r3, hS, rd_zero], by rw [Nat.div_eq_of_lt (r4 i3 q3)]⟩
theorem sqrt_zero {y : Nat} (hy : Fnt y) (hv : vu y = 0) (hs : y / 2 ^ 63 % 2 = 0) : ∃ r, Ieee.double.sqrt y = some r ∧ Fnt r ∧ vu r = 0 := by
  obtain ⟨s, m, p, h1, _, _, h2, hm, h3, h4⟩ := read_fin hy
  have hs0 : s = false := by rw [h3, hs]; rfl
  have hm0 : m = 0 := by
    have h5 := vu_abs y
    rw [hv, ← h4] at h5
    have h6 : m * 2 ^ p = 0 := by simpa using h5.symm
    rcases Nat.mul_eq_zero.1 h6 with h | h
    · exact h
    · have := Nat.two_pow_pos p; omega
  unfold Ieee.Format.sqrt
  rw [h1, hs0]
  unfold Ieee.Datum.root
  simp only []
  rw [if_pos hm0, Option.map_some, write_number]
  have h0 : ∀ q : Int, Ieee.double.nearest false 0 q = 0 := fun q => by unfold Ieee.Format.nearest; rw [if_pos rfl]; rfl
  refine ⟨_, rfl, ?_⟩
  rw [hm0, h0]
  exact vu_zero
theorem flat_dev (x : Int) (hx : x.natAbs ≤ 2 ^ 40) (c : Nat) (h1 : 1 ≤ c) (hc : c ≤ 4096) : Fnt (devF (rep c x)) ∧ vu (devF (rep c x)) = 0 := by
  obtain ⟨m1, m2⟩ := flat_mean x hx c h1 hc
  obtain ⟨v1, v2, v3⟩ := flat_sqs hx m1 m2 c
  obtain ⟨f1, f2, f3⟩ := fi_ge h1 hc
  obtain ⟨u, k, b, d1, d2, d3⟩ := div_val v1 f1 f2
  have hu : u = false := by rw [d2, v3, f3]; rfl
  have hB : k * 2 ^ b ≤ 0 := by rw [v2] at d3; simpa using d3
  have hn := nearest_of (u := u) ok_zero hB
  obtain ⟨r, r1, r2, r3⟩ := sqrt_zero hn.1 (by have := hn.2.1; omega) (by rw [Nat.div_eq_of_lt (hn.2.2.1 hu).2])
  have hd : devF (rep c x) = r := by unfold devF; rw [rep_len, d1, Option.getD_some, r1]; rfl
  rw [hd]
  exact ⟨r2, r3⟩
theorem flat_step {p m : Nat} {x : Int} (hp : shareB p = true) (hm : Fnt m) (hv : vu m = x * (un : Int)) (hx : x.natAbs ≤ 2 ^ 40) :
    Fnt (mv p m x) ∧ vu (mv p m x) = x * (un : Int) := by
  obtain ⟨d, d1, d2, d3⟩ := flat_sub hx hm hv
  obtain ⟨q, q1, q2, q3⟩ := mul_part hp d2
  have hq : vu q = 0 := by omega
  have hS : vu m + vu q = x * (un : Int) := by rw [hv, hq]; omega
  have ok2 := rd_ok (ok_wide (z := x) (by omega))
  obtain ⟨r, r1, r2, r3, _⟩ := add_val hm q2 (by rw [hS]; exact ok2.2)
  have hmv : mv p m x = r := by unfold mv; rw [d1, Option.getD_some, q1, Option.getD_some, r1]; rfl
  rw [hmv]
  exact ⟨r2, by rw [r3, hS, ok2.1]⟩
theorem flat_all {p : Nat} {x : Int} (hp : shareB p = true) (hx : x.natAbs ≤ 2 ^ 40) (c i : Nat) (hi : i < c) : Fnt (smAt p (rep c x) i) ∧ vu (smAt p (rep c x) i) = x * (un : Int) := by
  induction i with
  | zero =>
    have e : smAt p (rep c x) 0 = fi x := by unfold smAt; rw [rep_get _ _ _ hi]
    rw [e]
    exact ⟨(fi_val x (by omega)).1, fi_exact x (by omega)⟩
  | succ i ih =>
    obtain ⟨i1, i2⟩ := ih (by omega)
    have e : smAt p (rep c x) (i + 1) = mv p (smAt p (rep c x) i) x := by rw [smAt, rep_get _ _ _ hi]
    rw [e]
    exact flat_step hp i1 i2 hx
theorem flat_order {p : Nat} {x : Int} (hp : shareB p = true) (hx : x.natAbs ≤ 2 ^ 40) (c i : Nat) (hi : i < c) : Ieee.double.order (smAt p (rep c x) i) (fi x) = some .eq := by
  obtain ⟨h1, h2⟩ := flat_all hp hx c i hi
  rw [order_val h1 (fi_val _ (by omega)).1, h2, fi_exact _ (by omega), compare_self]
theorem flat_mean_order (x : Int) (hx : x.natAbs ≤ 2 ^ 40) (c : Nat) (h1 : 1 ≤ c) (hc : c ≤ 4096) : Ieee.double.order (mF (rep c x)) (fi x) = some .eq := by
  obtain ⟨m1, m2⟩ := flat_mean x hx c h1 hc
  rw [order_val m1 (fi_val _ (by omega)).1, m2, fi_exact _ (by omega), compare_self]
theorem flat_dev_order (x : Int) (hx : x.natAbs ≤ 2 ^ 40) (c : Nat) (h1 : 1 ≤ c) (hc : c ≤ 4096) : Ieee.double.order (devF (rep c x)) 0 = some .eq := by
  obtain ⟨m1, m2⟩ := flat_dev x hx c h1 hc
  rw [order_val m1 vu_zero.1, m2, vu_zero.2, compare_self]
theorem rep_min (x : Int) (c : Nat) (h1 : 1 ≤ c) : Lib.minOf (rep c x) = x := by
  refine rep_mem (k := c) (min_mem (fun h => ?_))
  have := rep_len c x
  rw [h] at this
  simp at this
  omega
end Go.Proofs.Ytgoimoaeeiobnaa.Ga
