/- The gauge: how shares rise. -/
import Derived.Test.YtgoimoaeeiobnaaGaSh
namespace Go.Proofs.Ytgoimoaeeiobnaa.Ga
open Go.RowKit Go.Hp Go.Fl
set_option linter.unusedSimpArgs false
set_option linter.unusedVariables false
set_option maxRecDepth 100000
theorem read_cases (x : Nat) : Fnt x ∨ (∃ s, Ieee.double.read x = .infinity s) ∨ (∃ a b, Ieee.double.read x = .nan a b) := by
  have hsw : Ieee.double.signWeight = 2 ^ 63 := by decide
  have hb : Ieee.double.binade = 2 ^ 52 := rfl
  have hi : Ieee.double.infRung = inf := by decide
  by_cases hx : Fnt x
  · exact Or.inl hx
  · right
    unfold Fnt at hx
    have hnb : ¬ x % 2 ^ 63 < 2 ^ 52 := by unfold inf at hx; omega
    by_cases he : x % 2 ^ 63 = inf
    · left
      refine ⟨(x / 2 ^ 63 % 2 == 1), ?_⟩
      unfold Ieee.Format.read
      rw [hsw, hb, hi]
      simp only []
      rw [if_neg hnb, if_neg hx, if_pos he]
    · right
      unfold Ieee.Format.read
      rw [hsw, hb, hi]
      simp only []
      rw [if_neg hnb, if_neg hx, if_neg he]
      exact ⟨_, _, rfl⟩
theorem order_le {x y : Nat} (hx : Fnt x) (hy : Fnt y) (h : Ieee.double.order x y = some .lt ∨ Ieee.double.order x y = some .eq) : vu x ≤ vu y := by
  rw [order_val hx hy] at h
  simp only [compare, compareOfLessAndEq] at h
  by_cases a : vu x < vu y
  · omega
  · rw [if_neg a] at h
    by_cases b : vu x = vu y
    · omega
    · rw [if_neg b] at h; simp at h
theorem share_of_val {p : Nat} (hf : Fnt p) (h0 : 0 < vu p) (h1 : vu p ≤ un) : shareB p = true := by
  unfold shareB
  rw [order_val hf zero_val.1, order_val hf one_val.1, zero_val.2, one_val.2]
  simp only [compare, compareOfLessAndEq]
  rw [if_neg (by omega), if_neg (by omega)]
  by_cases a : vu p < un
  · rw [if_pos a]; rfl
  · rw [if_neg a, if_pos (by omega)]; rfl
theorem rises_fnt {p q : Nat} (h1 : Ieee.double.order p 0 = some .gt) (h2 : Ieee.double.order p q = some .lt ∨ Ieee.double.order p q = some .eq) (h3 : Ieee.double.order q 4607182418800017408 = some .lt ∨ Ieee.double.order q 4607182418800017408 = some .eq) :
    shareB p = true ∧ shareB q = true ∧ vu p ≤ vu q := by
  have hp0 : Fnt p ∧ Fnt q := by
    obtain ⟨t0, n0, q0, g0, _⟩ := read_fin zero_val.1
    obtain ⟨t1, n1, q1, g1, _⟩ := read_fin one_val.1
    unfold Ieee.Format.order at h1 h2 h3
    rw [g0] at h1
    rw [g1] at h3
    rcases read_cases p with hp | ⟨s, hp⟩ | ⟨a, b, hp⟩
    · obtain ⟨t2, n2, q2, g2, _⟩ := read_fin hp
      rw [g2] at h2
      rcases read_cases q with hq | ⟨s, hq⟩ | ⟨a, b, hq⟩
      · exact ⟨hp, hq⟩
      · rw [hq] at h2 h3
        exfalso
        unfold Ieee.Datum.order at h2 h3
        simp only [] at h2 h3
        cases s <;> simp at h2 h3
      · rw [hq] at h2
        exfalso
        unfold Ieee.Datum.order at h2
        simp at h2
    · exfalso
      rw [hp] at h1 h2
      rcases read_cases q with hq | ⟨s', hq⟩ | ⟨a, b, hq⟩
      · obtain ⟨t2, n2, q2, g2, _⟩ := read_fin hq
        rw [g2] at h2
        unfold Ieee.Datum.order at h1 h2
        simp only [] at h1 h2
        cases s <;> simp at h1 h2
      · rw [hq] at h2 h3
        unfold Ieee.Datum.order at h1 h2 h3
        simp only [] at h1 h2 h3
        cases s <;> cases s' <;> first | (simp at h1 h2 h3; done) | (simp at h1 h2 h3; exact absurd h2 (by decide))
      · rw [hq] at h2
        unfold Ieee.Datum.order at h2
        simp at h2
    · exfalso
      rw [hp] at h1
      unfold Ieee.Datum.order at h1
      simp at h1
  obtain ⟨hp, hq⟩ := hp0
  have hle := order_le hp hq h2
  have hl1 := order_le hq one_val.1 h3
  rw [one_val.2] at hl1
  have hg : 0 < vu p := by
    rw [order_val hp zero_val.1, zero_val.2] at h1
    simp only [compare, compareOfLessAndEq] at h1
    by_cases a : vu p < 0
    · rw [if_pos a] at h1; simp at h1
    · rw [if_neg a] at h1
      by_cases b : vu p = 0
      · rw [if_pos b] at h1; simp at h1
      · omega
  exact ⟨share_of_val hp hg (by omega), share_of_val hq (by omega) hl1, hle⟩
theorem want_vu {p n : Nat} (h : shareB p = true) (h1 : 1 ≤ n) (h2 : n ≤ 4096) : vu (wantF p n) = (xr (rg ((vu p).natAbs * n)) : Int) := by
  obtain ⟨p1, p2, p3⟩ := share_val h
  obtain ⟨f1, f2, f3⟩ := fi_ge h1 h2
  obtain ⟨u, k, b, e1, e2, e3⟩ := mul_val p1 f1
  have hfn : (vu (fi n)).natAbs = n * un := by rw [fi_exact (n : Int) (by simp; omega), mul_un_natAbs]; simp
  have hz : k * 2 ^ b = (vu p).natAbs * n := by
    refine Nat.eq_of_mul_eq_mul_right un_pos ?_
    rw [e3, hfn, Nat.mul_assoc]
  have hB : k * 2 ^ b ≤ n * un := by
    rw [hz, Nat.mul_comm n]
    exact Nat.mul_le_mul_right _ (by omega)
  have hu : u = false := by
    have hs := sign_vu p1
    have hp : p / 2 ^ 63 % 2 = 0 := by
      rcases Nat.mod_two_eq_zero_or_one (p / 2 ^ 63) with h | h
      · exact h
      · have := hs.1 h; omega
    rw [e2, hp, f3]; rfl
  have hr : rg (k * 2 ^ b) < inf := by
    have ho := (ok_int (m := n) (by omega)).xr.2
    have := rg_mono hB
    omega
  have hn := (nearest_fin u k b hr).2.1
  have hw : wantF p n = Ieee.double.nearest u k ((b : Int) - 4000) := by unfold wantF; rw [e1]; rfl
  rw [hw, hn, hu, hz]
  rfl
theorem want_mono {p q n : Nat} (h : shareB p = true) (h' : shareB q = true) (hle : vu p ≤ vu q) (h1 : 1 ≤ n) (h2 : n ≤ 4096) : vu (wantF p n) ≤ vu (wantF q n) := by
  obtain ⟨_, p2, _⟩ := share_val h
  rw [want_vu h h1 h2, want_vu h' h1 h2]
  exact Int.ofNat_le.2 (xr_mono (rg_mono (Nat.mul_le_mul_right _ (by omega))))
theorem one_share : shareB 4607182418800017408 = true := share_of_val one_val.1 (by rw [one_val.2]; exact Int.natCast_pos.2 un_pos) (by rw [one_val.2]; omega)
theorem want_one {n : Nat} (h1 : 1 ≤ n) (h2 : n ≤ 4096) : vu (wantF 4607182418800017408 n) = ((n * un : Nat) : Int) := by
  rw [want_vu one_share h1 h2, one_val.2, Int.natAbs_natCast, Nat.mul_comm un, (ok_int (m := n) (by omega)).xr.1]
theorem good_iff {zs : List Int} {p : Nat} (h : shareB p = true) (h1 : 1 ≤ zs.length) (h2 : zs.length ≤ 4096) (x : Int) : good zs p x = true ↔ vu (wantF p zs.length) ≤ ((zs.countP (· ≤ x) * un : Nat) : Int) := by
  obtain ⟨_, w1, _⟩ := want_ok h h1 h2
  have hc := List.countP_le_length (p := fun y => decide (y ≤ x)) (l := zs)
  have hf := fi_val ((zs.countP (· ≤ x) : Nat) : Int) (by simp; omega)
  unfold good
  rw [geB_val hf.1 w1, fi_exact ((zs.countP (· ≤ x) : Nat) : Int) (by simp; omega), Int.natCast_mul]
  simp
theorem foldl_max (zs : List Int) (a : Int) : a ≤ zs.foldl max a ∧ (∀ x ∈ zs, x ≤ zs.foldl max a) ∧ (zs.foldl max a = a ∨ zs.foldl max a ∈ zs) := by
  induction zs generalizing a with
  | nil => simp
  | cons y ys ih =>
    obtain ⟨h1, h2, h3⟩ := ih (max a y)
    simp only [List.foldl_cons, List.mem_cons]
    refine ⟨by omega, fun x hx => ?_, ?_⟩
    · rcases hx with rfl | hx
      · omega
      · exact h2 x hx
    · rcases h3 with h3 | h3
      · rw [h3]
        rcases Int.le_total a y with h | h
        · right; left; omega
        · left; omega
      · exact Or.inr (Or.inr h3)
theorem foldl_min (zs : List Int) (a : Int) : zs.foldl min a ≤ a ∧ (∀ x ∈ zs, zs.foldl min a ≤ x) := by
  induction zs generalizing a with
  | nil => simp
  | cons y ys ih =>
    obtain ⟨h1, h2⟩ := ih (min a y)
    simp only [List.foldl_cons, List.mem_cons]
    refine ⟨by omega, fun x hx => ?_⟩
    rcases hx with rfl | hx
    · omega
    · exact h2 x hx
theorem max_ge {zs : List Int} {x : Int} (h : x ∈ zs) : x ≤ Lib.maxOf zs := (foldl_max zs _).2.1 x h
theorem min_le {zs : List Int} {x : Int} (h : x ∈ zs) : Lib.minOf zs ≤ x := (foldl_min zs _).2 x h
theorem max_mem {zs : List Int} (h : zs ≠ []) : Lib.maxOf zs ∈ zs := by
  rcases (foldl_max zs (zs.headD 0)).2.2 with h1 | h1
  · have : Lib.maxOf zs = zs.headD 0 := h1
    rw [this]
    cases zs with
    | nil => exact absurd rfl h
    | cons a ys => simp
  · exact h1
theorem share_find {zs : List Int} {p : Nat} (h : shareB p = true) (h1 : 1 ≤ zs.length) (h2 : zs.length ≤ 4096) : (srt zs).find? (good zs p) = some (shareOf zs p) := by
  have hne : zs ≠ [] := fun hc => by subst hc; simp at h1
  have hg : good zs p (Lib.maxOf zs) = true := by
    have := good_max h h1 h2
    unfold good
    rw [List.countP_eq_length.2 (fun x hx => by simpa using max_ge hx)]
    exact this
  have hm : Lib.maxOf zs ∈ srt zs := (srt_perm zs).mem_iff.2 (max_mem hne)
  cases hf : (srt zs).find? (good zs p) with
  | none => exact absurd hg (List.find?_eq_none.1 hf _ hm)
  | some y => unfold shareOf; rw [hf]; rfl
theorem share_mem {zs : List Int} {p : Nat} (h : shareB p = true) (h1 : 1 ≤ zs.length) (h2 : zs.length ≤ 4096) : shareOf zs p ∈ zs :=
  (srt_perm zs).mem_iff.1 (List.mem_of_find?_eq_some (share_find h h1 h2))
theorem share_mono {zs : List Int} {p q : Nat} (h : shareB p = true) (h' : shareB q = true) (hle : vu p ≤ vu q) (h1 : 1 ≤ zs.length) (h2 : zs.length ≤ 4096) : shareOf zs p ≤ shareOf zs q := by
  obtain ⟨_, j, hj, ej, hbe⟩ := List.find?_eq_some_iff_getElem.1 (share_find h h1 h2)
  obtain ⟨hgq, k, hk, ek, _⟩ := List.find?_eq_some_iff_getElem.1 (share_find h' h1 h2)
  have hgp : good zs p (shareOf zs q) = true := by
    have h3 := (good_iff h' h1 h2 _).1 hgq
    have h4 := want_mono h h' hle h1 h2
    exact (good_iff h h1 h2 _).2 (Int.le_trans h4 h3)
  rw [← ej, ← ek]
  have hjk : j ≤ k := by
    rcases Nat.lt_or_ge k j with hc | hc
    · have := hbe k hc
      rw [ek, hgp] at this
      simp at this
    · exact hc
  exact sorted_le (srt_sorted zs) hjk hk
theorem share_one {zs : List Int} (h1 : 1 ≤ zs.length) (h2 : zs.length ≤ 4096) : shareOf zs 4607182418800017408 = Lib.maxOf zs := by
  have hne : zs ≠ [] := fun hc => by subst hc; simp at h1
  have hm := share_mem one_share h1 h2
  have hg := List.find?_some (share_find one_share h1 h2)
  rw [good_iff one_share h1 h2, want_one h1 h2] at hg
  have hc : zs.length ≤ zs.countP (· ≤ shareOf zs 4607182418800017408) := Nat.le_of_mul_le_mul_right (Int.ofNat_le.1 hg) un_pos
  have hle := List.countP_le_length (p := fun y => decide (y ≤ shareOf zs 4607182418800017408)) (l := zs)
  have hall := List.countP_eq_length.1 (Nat.le_antisymm hle hc)
  have h3 := hall _ (max_mem hne)
  have h4 := max_ge hm
  simp at h3
  omega
end Go.Proofs.Ytgoimoaeeiobnaa.Ga
