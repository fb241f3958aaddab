/- The gauge: Share. -/
import Derived.Test.YtgoimoaeeiobnaaGaBr
namespace Go.Proofs.Ytgoimoaeeiobnaa.Ga
open Go.RowKit Go.Hp Go.Fl
set_option linter.unusedSimpArgs false
set_option linter.unusedVariables false
set_option maxRecDepth 100000
/-- x ≥ y, as floats. -/
def geB (x y : Nat) : Bool := Ieee.double.order x y == some Ordering.gt || Ieee.double.order x y == some Ordering.eq
theorem geB_val {x y : Nat} (hx : Fnt x) (hy : Fnt y) : geB x y = decide (vu y ≤ vu x) := by
  unfold geB
  rw [order_val hx hy]
  simp only [compare, compareOfLessAndEq]
  by_cases h : vu x < vu y
  · rw [if_pos h]; simp; omega
  · rw [if_neg h]
    by_cases h2 : vu x = vu y
    · rw [if_pos h2]; simp; omega
    · rw [if_neg h2]; simp; omega
theorem geB_no {x y : Nat} (h : (FloatKind.f64.format.order x y == some Ordering.gt) = false ∧ (FloatKind.f64.format.order x y == some Ordering.eq) = false) : geB x y = false := by
  show (FloatKind.f64.format.order x y == some Ordering.gt || FloatKind.f64.format.order x y == some Ordering.eq) = false
  rw [h.1, h.2]; rfl
theorem geB_yes {x y : Nat} (h : (FloatKind.f64.format.order x y == some Ordering.gt) = true ∨ (FloatKind.f64.format.order x y == some Ordering.eq) = true) : geB x y = true := by
  show (FloatKind.f64.format.order x y == some Ordering.gt || FloatKind.f64.format.order x y == some Ordering.eq) = true
  rw [Bool.or_eq_true]; exact h
theorem one_val : Fnt 4607182418800017408 ∧ vu 4607182418800017408 = un := by
  have h : fi 1 = 4607182418800017408 := by decide
  rw [← h]
  refine ⟨(fi_val 1 (by decide)).1, ?_⟩
  rw [fi_exact 1 (by decide), Int.one_mul]
theorem zero_val : Fnt 0 ∧ vu 0 = 0 := ⟨by unfold Fnt inf; omega, by unfold vu; rw [if_neg (by omega), Nat.zero_mod, xr_zero]; rfl⟩
theorem fnt_of_order {x y : Nat} (hy : Fnt y) (h1 : ∃ o, Ieee.double.order x 0 = some o ∧ o = .gt) (h2 : Ieee.double.order x y = some .lt ∨ Ieee.double.order x y = some .eq) : Fnt x := by
  have hsw : Ieee.double.signWeight = 2 ^ 63 := by decide
  have hb : Ieee.double.binade = 2 ^ 52 := rfl
  have hi : Ieee.double.infRung = inf := by decide
  by_cases hx : Fnt x
  · exact hx
  · exfalso
    obtain ⟨t, n, q, g1, _⟩ := read_fin hy
    obtain ⟨t0, n0, q0, g0, _⟩ := read_fin zero_val.1
    obtain ⟨o, ho, rfl⟩ := h1
    unfold Fnt at hx
    have hnb : ¬ x % 2 ^ 63 < 2 ^ 52 := by unfold inf at hx; omega
    by_cases he : x % 2 ^ 63 = inf
    · have hr : Ieee.double.read x = .infinity (x / 2 ^ 63 % 2 == 1) := by
        unfold Ieee.Format.read
        rw [hsw, hb, hi]
        simp only []
        rw [if_neg hnb, if_neg hx, if_pos he]
      generalize (x / 2 ^ 63 % 2 == 1) = sg at hr
      unfold Ieee.Format.order at ho h2
      rw [hr, g0] at ho
      rw [hr, g1] at h2
      unfold Ieee.Datum.order at ho h2
      simp only [] at ho h2
      cases sg <;> simp at ho h2
    · have hr : ∃ a b, Ieee.double.read x = .nan a b := by
        unfold Ieee.Format.read
        rw [hsw, hb, hi]
        simp only []
        rw [if_neg hnb, if_neg hx, if_neg he]
        exact ⟨_, _, rfl⟩
      obtain ⟨a, b, hr⟩ := hr
      unfold Ieee.Format.order at ho
      rw [hr] at ho
      simp [Ieee.Datum.order] at ho
theorem share_val {p : Nat} (h : shareB p = true) : Fnt p ∧ 0 < vu p ∧ vu p ≤ un := by
  unfold shareB at h
  rw [Bool.and_eq_true, Bool.or_eq_true] at h
  have h1 : Ieee.double.order p 0 = some .gt := by simpa using h.1
  have h2 : Ieee.double.order p 4607182418800017408 = some .lt ∨ Ieee.double.order p 4607182418800017408 = some .eq := by simpa using h.2
  have hf := fnt_of_order one_val.1 ⟨_, h1, rfl⟩ h2
  rw [order_val hf zero_val.1, zero_val.2] at h1
  rw [order_val hf one_val.1, one_val.2] at h2
  simp only [compare, compareOfLessAndEq] at h1 h2
  refine ⟨hf, ?_, ?_⟩
  · by_cases a : vu p < 0
    · rw [if_pos a] at h1; simp at h1
    · rw [if_neg a] at h1
      by_cases b : vu p = 0
      · rw [if_pos b] at h1; simp at h1
      · omega
  · by_cases a : vu p < un
    · omega
    · rw [if_neg a] at h2
      by_cases b : vu p = un
      · omega
      · rw [if_neg b] at h2; simp at h2
/-- How many must not be above. -/
def wantF (p n : Nat) : Nat := (Ieee.double.mul p (fi n)).getD 0
theorem want_ok {p n : Nat} (h : shareB p = true) (h1 : 1 ≤ n) (h2 : n ≤ 4096) : Ieee.double.mul p (fi n) = some (wantF p n) ∧ Fnt (wantF p n) ∧ (vu (wantF p n)).natAbs ≤ n * un := by
  obtain ⟨p1, p2, p3⟩ := share_val h
  obtain ⟨f1, f2, f3⟩ := fi_ge h1 h2
  obtain ⟨u, k, b, e1, e2, e3⟩ := mul_val p1 f1
  have hfn : (vu (fi n)).natAbs = n * un := by rw [fi_exact (n : Int) (by simp; omega), mul_un_natAbs]; simp
  have hB : k * 2 ^ b ≤ n * un := by
    refine Nat.le_of_mul_le_mul_right (c := un) ?_ un_pos
    rw [e3, hfn, Nat.mul_comm (n * un)]
    exact Nat.mul_le_mul_right _ (by omega)
  have hn := nearest_of (u := u) (ok_int (m := n) (by omega)) hB
  have hw : wantF p n = Ieee.double.nearest u k ((b : Int) - 4000) := by unfold wantF; rw [e1]; rfl
  rw [hw]
  exact ⟨e1, hn.1, hn.2.1⟩
/-- Is x a sample that enough are not above? -/
def good (zs : List Int) (p : Nat) (x : Int) : Bool := geB (fi (zs.countP (· ≤ x) : Nat)) (wantF p zs.length)
def shareOf (zs : List Int) (p : Nat) : Int := ((srt zs).find? (good zs p)).getD 0
theorem srt_sorted (zs : List Int) : (srt zs).Pairwise (· ≤ ·) := by
  unfold srt
  have := List.pairwise_mergeSort (le := fun x y : Int => decide (x ≤ y)) (fun a b c => by simp; omega) (fun a b => by simp; omega) zs
  simpa using this
theorem srt_perm (zs : List Int) : (srt zs).Perm zs := List.mergeSort_perm _ _
theorem sorted_le {s : List Int} (h : s.Pairwise (· ≤ ·)) {i j : Nat} (hij : i ≤ j) (hj : j < s.length) : s[i] ≤ s[j] := by
  rcases Nat.lt_or_ge i j with h1 | h1
  · exact (List.pairwise_iff_getElem.1 h) i j (by omega) hj h1
  · obtain rfl : i = j := by omega
    exact Int.le_refl _
/-- Is it the last of its like? -/
def lastAt (s : List Int) (i : Nat) : Prop := ∀ (h : i + 1 < s.length), (s[i]'(by omega)) < s[i + 1]
theorem count_cut {s : List Int} {i : Nat} {v : Int} (hi : i < s.length) (ha : ∀ j (hj : j < s.length), j ≤ i → s[j] ≤ v) (hb : ∀ j (hj : j < s.length), i < j → v < s[j]) : s.countP (· ≤ v) = i + 1 := by
  have e0 : s.countP (· ≤ v) = (s.take (i + 1) ++ s.drop (i + 1)).countP (· ≤ v) := by rw [List.take_append_drop]
  rw [e0, List.countP_append]
  have e1 : (s.take (i + 1)).countP (· ≤ v) = i + 1 := by
    rw [List.countP_eq_length.2 ?_, List.length_take]
    · omega
    · intro a hm
      obtain ⟨j, hj, rfl⟩ := List.getElem_of_mem hm
      rw [List.length_take] at hj
      rw [List.getElem_take]
      simpa using ha j (by omega) (by omega)
  have e2 : (s.drop (i + 1)).countP (· ≤ v) = 0 := by
    rw [List.countP_eq_zero]
    intro a hm
    obtain ⟨j, hj, rfl⟩ := List.getElem_of_mem hm
    rw [List.length_drop] at hj
    rw [List.getElem_drop]
    have := hb (i + 1 + j) (by omega) (by omega)
    simp
    omega
  rw [e1, e2]
theorem count_last {s : List Int} (h : s.Pairwise (· ≤ ·)) {i : Nat} (hi : i < s.length) (hl : lastAt s i) : s.countP (· ≤ s[i]) = i + 1 := by
  refine count_cut hi (fun j hj hji => sorted_le h hji hi) (fun j hj hij => ?_)
  have h1 := hl (by omega)
  have h2 := sorted_le h (show i + 1 ≤ j by omega) hj
  omega
theorem find_last {s : List Int} (h : s.Pairwise (· ≤ ·)) (G : Int → Bool) {i : Nat} (hi : i < s.length) (hG : G s[i] = true) (hno : ∀ j (hj : j < i), lastAt s j → G (s[j]'(by omega)) = false) : s.find? G = some s[i] := by
  have key : ∀ d j (hj : j < i), i - j = d → (s[j]'(by omega)) < s[i] → G (s[j]'(by omega)) = false := by
    intro d
    induction d with
    | zero => intro j hj hd; omega
    | succ d ih =>
      intro j hj hd hlt
      have hjl : j < s.length := by omega
      by_cases hl : lastAt s j
      · exact hno j hj hl
      · have hlen : j + 1 < s.length := by omega
        have hge : ¬ s[j] < s[j + 1] := fun hc => hl fun _ => hc
        clear hl
        have hle := sorted_le h (show j ≤ j + 1 by omega) hlen
        have he : s[j + 1] = s[j] := by omega
        have hji : j + 1 ≠ i := fun hc => by subst hc; omega
        have := ih (j + 1) (by omega) (by omega) (by omega)
        rwa [he] at this
  cases hf : s.find? G with
  | none =>
    have := List.find?_eq_none.1 hf s[i] (List.getElem_mem hi)
    exact absurd hG this
  | some y =>
    obtain ⟨hy, k, hk, rfl, hbe⟩ := List.find?_eq_some_iff_getElem.1 hf
    congr 1
    have hki : k ≤ i := by
      rcases Nat.lt_or_ge i k with hc | hc
      · have := hbe i hc; simp [hG] at this
      · exact hc
    have hle := sorted_le h hki hi
    rcases Nat.lt_or_ge k i with hc | hc
    · by_cases hlt : s[k] < s[i]
      · have := key _ k hc rfl hlt; rw [this] at hy; simp at hy
      · omega
    · obtain rfl : k = i := by omega
      rfl
def SharePost (zs : List Int) (p : Nat) (w : World) (e : Ending) (w' : World) : Prop := e = .returned (.tuple #[.int .i64 (shareOf zs p), .int .i64 0]) ∧ Chg (fun _ => False) w w'
theorem good_max {zs : List Int} {p : Nat} (h : shareB p = true) (h1 : 1 ≤ zs.length) (h2 : zs.length ≤ 4096) : geB (fi (zs.length : Nat)) (wantF p zs.length) = true := by
  obtain ⟨_, w1, w2⟩ := want_ok h h1 h2
  rw [geB_val (fi_ge h1 h2).1 w1, fi_exact (zs.length : Int) (by simp; omega)]
  have e : ((zs.length * un : Nat) : Int) = (zs.length : Int) * (un : Int) := Int.natCast_mul _ _
  simp
  omega
set_option maxHeartbeats 2000000 in
theorem share_ok (b off n c : Nat) (zs : List Int) (p : Nat) (w : World) (hs : Sl w (some ⟨b, off, none⟩) zs) (hn : zs.length = n) (h1 : 1 ≤ n) (h2 : n ≤ 4096) (hp : shareB p = true) :
    Calls Try.prog 21 #[.slice (some ⟨b, off, none⟩) n c, .float .f64 p] w (SharePost zs p w) := by
  obtain ⟨hm, _, _⟩ := want_ok hp h1 h2
  have hM := fun w => run_float_arith (P := Try.prog) w .mul 25 .f64 p (floatOfInt .f64 n) (wantF p n) hm
  have HN := Lib.hid hn
  have HS := Lib.hid hs
  have hne : zs ≠ [] := fun h => by subst h; simp at hn; omega
  have HNE := Lib.hid hne
  have HP := Lib.hid hp
  have hlast : ∃ n1, n = n1 + 1 := ⟨n - 1, by omega⟩
  obtain ⟨n1, hn1⟩ := hlast
  have HN1 := Lib.hid hn1
  have hw1 : IntKind.i64.wrap ((n : Int) - 1) = (n1 : Int) := by rw [IntWalk.i64_in _ (by omega)]; omega
  have HSRT := Lib.hid (fun W Bs h1 h2 h3 => sorted_any (some ⟨b, off, none⟩) c Bs zs W (by omega) h1 hne h2 h3)
  have hsl : (srt zs).length = n := by rw [srt_len]; exact hn
  have HSL := Lib.hid hsl
  clear hn hs hne hp hm hn1 hsl
  have hbox : (w.alloc (.cells #[.slice (some ⟨b, off, none⟩) n c] 22)).cell? ⟨w.heap.size, 0, none⟩ = some (.slice (some ⟨b, off, none⟩) n c) := (Blk.new _ _ _).cell 0
  have HBOX := Lib.hid hbox
  clear hbox
  rw [HN.out] at HSRT
  go_enter Try.func21, Try.ntmps21
  go_wp2_with (first
    | (go_at_call 38; refine (some_ok _ _ _ _ h1 h2).mono ?_; rintro r w1 ⟨rfl, rfl⟩)
    | (go_at_call 42; refine (share_any _ _).mono ?_; rintro r w1 ⟨rfl, rfl⟩; rw [HP.out])
    | (go_at_call 44; refine (values_any _ _ _ _).mono ?_; rintro r w1 ⟨rfl, rfl⟩)
    | (go_at_call 43; refine (HSRT.out _ _ (HS.out.keep ((Chg.refl _ _).alloc _)) HBOX.out (by simp)).mono ?_; rintro r w2 ⟨g, cc, rfl, ht⟩; have HT := Lib.hid ht; clear ht))
  have HCHG : Hid (Chg (fun _ => False) w w2) := Lib.hid (((Chg.refl _ _).alloc _).trans HT.out.chg)
  have HNO0 : ∀ j (hj : j < 0) (hz : j < (srt zs).length), lastAt (srt zs) j → good zs p ((srt zs)[j]) = false := fun j hj => absurd hj (by omega)
  go_loopw [30] (fun x30 wr => ∃ i : Nat, x30 = .int .i64 i ∧ i ≤ n ∧ (∀ j (hj : j < i) (hz : j < (srt zs).length), lastAt (srt zs) j → good zs p ((srt zs)[j]) = false) ∧ ∃ q, w2.drewN q = wr) (fun x30 _ => n - (intOf x30).toNat)
  case atStart => exact ⟨0, rfl, Nat.zero_le _, HNO0, 0, rfl⟩
  case round =>
    obtain ⟨i, rfl, hin, hno, q, rfl⟩ := hrel
    have HNO := Lib.hid hno
    clear hno
    by_cases hlt : i < n
    · have hd : decide ((i : Int) < (n : Int)) = true := by simp; omega
      have hd' : decide (i < n) = true := by simp; omega
      have hil : i < (srt zs).length := by rw [HSL.out]; exact hlt
      obtain ⟨u, hu1, hu2, hu3⟩ := row_there HT.out.now i hlt
      rw [List.getElem?_map, List.getElem?_eq_getElem hil] at hu1
      simp at hu1
      subst hu1
      obtain ⟨x, hx⟩ : ∃ x, (srt zs)[i] = x := ⟨_, rfl⟩
      obtain ⟨k, hk⟩ : ∃ k, k = i + 1 := ⟨_, rfl⟩
      rw [hx] at hu2
      have HX := Lib.hid (Eq.trans rfl hx : (srt zs)[i] = x)
      have hu2' : (w2.drewN q).cell? ⟨g, i, none⟩ = some (.int .i64 x) := hu2
      have hwk : IntKind.i64.wrap ((i : Int) + 1) = (k : Int) := by rw [IntWalk.i64_in _ (by omega)]; omega
      have HSUM : Hid (lastAt (srt zs) i → good zs p x = geB (fi (k : Nat)) (wantF p n)) := by
        refine Lib.hid fun hl => ?_
        unfold good
        rw [HN.out]
        have h1 := (srt_perm zs).countP_eq (p := fun y => decide (y ≤ x))
        have h2 := count_last (srt_sorted zs) hil hl
        rw [hx] at h2
        rw [← h1, h2, hk]
      have HEND : Hid (lastAt (srt zs) i → good zs p x = true → shareOf zs p = x) := by
        refine Lib.hid fun hl hg => ?_
        unfold shareOf
        have := find_last (srt_sorted zs) (good zs p) hil (by rw [hx]; exact hg) (fun j hj hl => HNO.out j hj _ hl)
        rw [this, hx]; rfl
      have HMAX : Hid (geB (fi (n : Nat)) (wantF p n) = true) := by
        have := good_max HP.out (by rw [HN.out]; exact h1) (by rw [HN.out]; exact h2)
        rw [HN.out] at this
        exact Lib.hid this
      have HK := Lib.hid hk
      clear hx hu3 hk
      rcases Nat.lt_or_ge k n with hkn | hkn
      · have hd2 : decide ((i : Int) = (n1 : Int)) = false := by have := HN1.out; have := HK.out; simp; omega
        have hd3 : decide (k < n) = true := by simpa using hkn
        have hd5 : ¬ (i : Int) = (n1 : Int) := by have := HN1.out; have := HK.out; omega
        have hjl : k < (srt zs).length := by rw [HSL.out]; exact hkn
        obtain ⟨u, hv1, hv2, hv3⟩ := row_there HT.out.now k hkn
        rw [List.getElem?_map, List.getElem?_eq_getElem hjl] at hv1
        simp at hv1
        subst hv1
        obtain ⟨y, hy⟩ : ∃ y, (srt zs)[k] = y := ⟨_, rfl⟩
        rw [hy] at hv2
        have hv2' : (w2.drewN q).cell? ⟨g, k, none⟩ = some (.int .i64 y) := hv2
        have HLAST : Hid (lastAt (srt zs) i ↔ x < y) := by
          refine Lib.hid ⟨fun h => ?_, fun h hz => ?_⟩
          · have := h (by rw [← HK.out]; exact hjl)
            simp only [HX.out, ← HK.out, hy] at this
            exact this
          · simp only [HX.out, ← HK.out, hy]
            exact h
        clear hy hv3
        have HSTEP : Hid (good zs p x = false ∨ ¬ x < y → ∀ j (hj : j < k) (hz : j < (srt zs).length), lastAt (srt zs) j → good zs p ((srt zs)[j]) = false) := by
          refine Lib.hid fun hor j hj hz hl => ?_
          rcases Nat.lt_or_ge j i with h | h
          · exact HNO.out j h hz hl
          · obtain rfl : j = i := by have := HK.out; omega
            rw [HX.out]
            rcases hor with h | h
            · exact h
            · exact absurd (HLAST.out.1 hl) h
        by_cases hxy : x < y
        · have hd4 : decide (x < y) = true := by simpa using hxy
          have hl : lastAt (srt zs) i := HLAST.out.2 hxy
          have hs := HSUM.out hl
          have HSU : Hid (good zs p x = geB (floatOfInt .f64 (k : Int)) (wantF p n)) := Lib.hid hs
          have HL := Lib.hid hl
          clear hs hl
          go_wp2_with fail
          · have hb : good zs p x = true := by rw [HSU.out]; exact geB_yes (by assumption)
            have hend := HEND.out HL.out hb
            go_ret2
            unfold SharePost
            rw [hend]
            exact ⟨rfl, HCHG.out.drewN _⟩
          · have hb : good zs p x = false := by rw [HSU.out]; exact geB_no (by assumption)
            go_roundw
            case rel => exact ⟨k, rfl, by omega, HSTEP.out (.inl hb), q, rfl⟩
            case measure => have := HK.out; simp [intOf]; omega
        · have hd4 : decide (x < y) = false := by simpa using hxy
          go_wp2_with fail
          go_roundw
          case rel => exact ⟨k, rfl, by omega, HSTEP.out (.inr hxy), q, rfl⟩
          case measure => have := HK.out; simp [intOf]; omega
      · have hkn2 : i = n1 := by have := HN1.out; have := HK.out; omega
        have hkn3 : k = n := by have := HK.out; omega
        subst hkn3
        subst hkn2
        have hl : lastAt (srt zs) i := fun hz => absurd hz (by rw [HSL.out]; have := HN1.out; omega)
        have hs := HSUM.out hl
        rw [HMAX.out] at hs
        have hend := HEND.out hl hs
        have HE := Lib.hid hend
        clear hs hl hend
        go_wp2_with fail
        · go_ret2
          unfold SharePost
          rw [HE.out]
          exact ⟨rfl, HCHG.out.drewN _⟩
        · exfalso
          rename_i hh
          have := geB_no hh
          have h5 : geB (floatOfInt .f64 (k : Int)) (wantF p k) = true := HMAX.out
          rw [h5] at this
          simp at this
    · have hin2 : i = n := by omega
      exfalso
      have hz : n1 < (srt zs).length := by rw [HSL.out, HN1.out]; omega
      have hl : lastAt (srt zs) n1 := fun hz2 => absurd hz2 (by rw [HSL.out, HN1.out]; omega)
      have h5 := HNO.out n1 (by rw [hin2, HN1.out]; omega) hz hl
      have h6 := count_last (srt_sorted zs) hz hl
      have h7 := (srt_perm zs).countP_eq (p := fun y => decide (y ≤ (srt zs)[n1]))
      unfold good at h5
      rw [← h7, h6, HN.out, ← HN1.out] at h5
      have h8 := good_max HP.out (by rw [HN.out]; exact h1) (by rw [HN.out]; exact h2)
      rw [HN.out, h5] at h8
      simp at h8
theorem share_many (d : Option Addr) (n c : Nat) (p : Nat) (w : World) (hm : 4096 < n) :
    Calls Try.prog 21 #[.slice d n c, .float .f64 p] w fun e w' => e = .returned (.tuple #[.int .i64 0, .int .i64 220]) ∧ w = w' := by
  go_enter Try.func21, Try.ntmps21
  go_wp2_with (first
    | (go_at_call 38; refine (some_many _ _ _ _ hm).mono ?_; rintro r w1 ⟨rfl, rfl⟩))
  go_ret2
  exact ⟨rfl, rfl⟩
theorem share_none (d : Option Addr) (c : Nat) (p : Nat) (w : World) :
    Calls Try.prog 21 #[.slice d 0 c, .float .f64 p] w fun e w' => e = .returned (.tuple #[.int .i64 0, .int .i64 222]) ∧ w = w' := by
  go_enter Try.func21, Try.ntmps21
  go_wp2_with (first
    | (go_at_call 38; refine (some_none _ _ _).mono ?_; rintro r w1 ⟨rfl, rfl⟩))
  go_ret2
  exact ⟨rfl, rfl⟩
theorem share_bad (d : Option Addr) (n c : Nat) (p : Nat) (w : World) (h1 : 1 ≤ n) (h2 : n ≤ 4096) (hp : shareB p = false) :
    Calls Try.prog 21 #[.slice d n c, .float .f64 p] w fun e w' => e = .returned (.tuple #[.int .i64 0, .int .i64 221]) ∧ w = w' := by
  go_enter Try.func21, Try.ntmps21
  go_wp2_with (first
    | (go_at_call 38; refine (some_ok _ _ _ _ h1 h2).mono ?_; rintro r w1 ⟨rfl, rfl⟩)
    | (go_at_call 42; refine (share_any _ _).mono ?_; rintro r w1 ⟨rfl, rfl⟩; rw [hp]))
  go_ret2
  exact ⟨rfl, rfl⟩
end Go.Proofs.Ytgoimoaeeiobnaa.Ga
