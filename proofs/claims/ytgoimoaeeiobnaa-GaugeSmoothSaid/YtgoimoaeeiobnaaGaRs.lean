/- The gauge: the reference's Share. -/
import Derived.Test.YtgoimoaeeiobnaaGaHe
namespace Go.Proofs.Ytgoimoaeeiobnaa.Ga
open Go.RowKit Go.Hp Go.Fl
set_option linter.unusedSimpArgs false
set_option linter.unusedVariables false
set_option maxRecDepth 100000
attribute [local go_sem] run_store_float
theorem share_least {zs : List Int} {p : Nat} (h : shareB p = true) (h1 : 1 ≤ zs.length) (h2 : zs.length ≤ 4096) {y : Int} (hy : y ∈ zs) (hg : good zs p y = true) : shareOf zs p ≤ y := by
  have hf := share_find h h1 h2
  obtain ⟨_, us, bs, e, hno⟩ := List.find?_eq_some_iff_append.1 hf
  have hy' : y ∈ srt zs := (srt_perm zs).mem_iff.2 hy
  have hs := srt_sorted zs
  rw [e] at hy' hs
  rcases List.mem_append.1 hy' with h3 | h3
  · have := hno y h3
    rw [hg] at this
    simp at this
  · rcases List.mem_cons.1 h3 with h4 | h4
    · omega
    · exact (List.pairwise_cons.1 (List.pairwise_append.1 hs).2.1).1 y h4
theorem share_good {zs : List Int} {p : Nat} (h : shareB p = true) (h1 : 1 ≤ zs.length) (h2 : zs.length ≤ 4096) : good zs p (shareOf zs p) = true := by
  obtain ⟨hg, _⟩ := List.find?_eq_some_iff_append.1 (share_find h h1 h2)
  exact hg
theorem rshare_any (p : Nat) (w : World) : Calls Try.prog 45 #[.float .f64 p] w fun e w' => e = .returned (.bool (shareB p)) ∧ w = w' := by
  go_enter Try.func45, Try.ntmps45
  go_wp2
  · have h : Ieee.double.order p 0 = some Ordering.gt := by assumption
    go_ret
    refine ⟨?_, rfl⟩
    unfold shareB
    rw [h]
    rfl
  · have h : ¬ Ieee.double.order p 0 = some Ordering.gt := by assumption
    go_ret
    refine ⟨?_, rfl⟩
    unfold shareB
    have : (Ieee.double.order p 0 == some Ordering.gt) = false := by simpa using h
    rw [this]
    simp [FloatKind.format, this]
theorem below_any (A : Option Addr) (n c : Nat) (zs : List Int) (x : Int) (w : World) (hs : Sl w A zs) (hn : zs.length = n) (h2 : n ≤ 4096) :
    Calls Try.prog 46 #[.slice A n c, .int .i64 x] w fun e w' => e = .returned (.int .i64 (zs.countP (· ≤ x) : Nat)) ∧ ∃ q, w.drewN q = w' := by
  have HS := Lib.hid hs
  have HN := Lib.hid hn
  clear hs hn
  go_enter Try.func46, Try.ntmps46
  go_wp2_with fail
  go_loopw [5, 6] (fun x5 x6 wr => ∃ (i k : Nat), x6 = .int .i64 i ∧ i ≤ n ∧ x5 = .int .i64 k ∧ k ≤ i ∧ k = (zs.take i).countP (· ≤ x) ∧ ∃ q, w.drewN q = wr) (fun _ x6 _ => n - (intOf x6).toNat)
  case atStart => exact ⟨0, 0, rfl, Nat.zero_le _, rfl, Nat.le_refl _, rfl, 0, rfl⟩
  case round =>
    obtain ⟨i, k, rfl, hin, rfl, hki, hk, q, rfl⟩ := hrel
    have HK := Lib.hid hk
    clear hk
    by_cases hlt : i < n
    · have hd : decide ((i : Int) < (n : Int)) = true := by simp; omega
      have hd' : decide (i < n) = true := by simp; omega
      have hil : i < zs.length := by rw [HN.out]; exact hlt
      obtain ⟨b, off, rfl, hb, hc⟩ := HS.out.cells (fun h => by subst h; simp at hil)
      have c0 := hc i hil
      have htk : zs.take (i + 1) = zs.take i ++ [zs[i]] := by rw [List.take_add_one, List.getElem?_eq_getElem hil]; rfl
      obtain ⟨y, hy⟩ : ∃ y, zs[i] = y := ⟨_, rfl⟩
      have hgy : zs.getD i 0 = y := by rw [← hy]; simp [List.getD, hil]
      rw [hgy] at c0
      rw [hy] at htk
      have hcp : (zs.take (i + 1)).countP (· ≤ x) = (zs.take i).countP (· ≤ x) + (if y ≤ x then 1 else 0) := by rw [htk, List.countP_append]; simp [List.countP_cons]
      have HCP := Lib.hid hcp
      have c0' : (w.drewN q).cell? ⟨b, off + i, none⟩ = some (.int .i64 y) := c0
      clear hc hy hgy htk hcp
      by_cases hyx : y ≤ x
      · have q1 : decide (y ≤ x) = true := by simpa using hyx
        go_wp2_with fail
        go_roundw
        case rel => exact ⟨i + 1, k + 1, by simp, by omega, by simp, by omega, by rw [HCP.out, if_pos hyx, HK.out], q, rfl⟩
        case measure => simp [intOf]; omega
      · have q1 : decide (y ≤ x) = false := by simpa using hyx
        go_wp2_with fail
        go_roundw
        case rel => exact ⟨i + 1, k, by simp, by omega, rfl, by omega, by rw [HCP.out, if_neg hyx, HK.out]; rfl, q, rfl⟩
        case measure => simp [intOf]; omega
    · have hd : decide ((i : Int) < (n : Int)) = false := by simp; omega
      have hd' : decide (i < n) = false := by simp; omega
      have hk' : k = zs.countP (· ≤ x) := by
        rw [HK.out, List.take_of_length_le (by have := HN.out; omega)]
      go_wp2_with fail
      go_ret
      rw [hk']
      exact ⟨rfl, q, rfl⟩
theorem rshare_many (d : Option Addr) (n c : Nat) (p : Nat) (w : World) (hm : 4096 < n) :
    Calls Try.prog 22 #[.slice d n c, .float .f64 p] w fun e w' => e = .returned (.tuple #[.int .i64 0, .int .i64 220]) ∧ w = w' := by
  have d1 : decide (4096 < n) = true := by simpa using hm
  have d2 : decide ((4096 : Int) < (n : Int)) = true := by simp; omega
  go_enter Try.func22, Try.ntmps22
  go_wp2
  go_ret2
  exact ⟨rfl, rfl⟩
theorem rshare_none (d : Option Addr) (c : Nat) (p : Nat) (w : World) :
    Calls Try.prog 22 #[.slice d 0 c, .float .f64 p] w fun e w' => e = .returned (.tuple #[.int .i64 0, .int .i64 222]) ∧ w = w' := by
  go_enter Try.func22, Try.ntmps22
  go_wp2
  go_ret2
  exact ⟨rfl, rfl⟩
theorem rshare_bad (d : Option Addr) (n c : Nat) (p : Nat) (w : World) (h1 : 1 ≤ n) (h2 : n ≤ 4096) (hp : shareB p = false) :
    Calls Try.prog 22 #[.slice d n c, .float .f64 p] w fun e w' => e = .returned (.tuple #[.int .i64 0, .int .i64 221]) ∧ w = w' := by
  have d1 : decide (4096 < n) = false := by simp; omega
  have d2 : decide ((4096 : Int) < (n : Int)) = false := by simp; omega
  have d3 : ((n : Int) == 0) = false := by simp; omega
  go_enter Try.func22, Try.ntmps22
  go_wp2_with (first
    | (go_at_call 45; refine (rshare_any _ _).mono ?_; rintro r w1 ⟨rfl, rfl⟩; rw [hp]))
  go_ret2
  exact ⟨rfl, rfl⟩
theorem rshare_ok (b off n c : Nat) (zs : List Int) (p : Nat) (w : World) (hs : Sl w (some ⟨b, off, none⟩) zs) (hn : zs.length = n) (h1 : 1 ≤ n) (h2 : n ≤ 4096) (hp : shareB p = true) :
    Calls Try.prog 22 #[.slice (some ⟨b, off, none⟩) n c, .float .f64 p] w (SharePost zs p w) := by
  have d1 : decide (4096 < n) = false := by simp; omega
  have d2 : decide ((4096 : Int) < (n : Int)) = false := by simp; omega
  have d3 : ((n : Int) == 0) = false := by simp; omega
  have HMUL := (want_ok hp (n := n) h1 h2).1
  have F1 := fun w => run_float_arith (P := Try.prog) w .mul 25 .f64 p (floatOfInt .f64 (n : Int)) (wantF p n) HMUL
  have HP := Lib.hid hp
  have HS := Lib.hid hs
  have HN := Lib.hid hn
  have HL := Lib.hid (fun (y : Int) => share_least (y := y) hp (by omega : 1 ≤ zs.length) (by omega))
  have HG := Lib.hid (share_good hp (by omega : 1 ≤ zs.length) (by omega))
  have HM := Lib.hid (share_mem hp (by omega : 1 ≤ zs.length) (by omega))
  have HB := Lib.hid (fun x W h => below_any (some ⟨b, off, none⟩) n c zs x W h hn h2)
  clear hs hn hp HMUL
  go_enter Try.func22, Try.ntmps22
  go_wp2_with (first
    | (go_at_call 45; refine (rshare_any _ _).mono ?_; rintro r w1 ⟨rfl, rfl⟩; rw [HP.out]))
  go_loopw [7, 8, 9] (fun x7 x8 x9 wr => ∃ (i : Nat) (f : Bool) (y : Int), x9 = .int .i64 i ∧ i ≤ n ∧ x8 = .bool f ∧ x7 = .int .i64 y ∧ (f = true → y ∈ zs ∧ good zs p y = true) ∧ (∀ j (hj : j < zs.length), j < i → good zs p zs[j] = true → f = true ∧ y ≤ zs[j]) ∧ ∃ q, w.drewN q = wr) (fun _ _ x9 _ => n - (intOf x9).toNat)
  case atStart => exact ⟨0, false, 0, rfl, Nat.zero_le _, rfl, rfl, fun h => by simp at h, fun j hj h => absurd h (by omega), 0, rfl⟩
  case round =>
    obtain ⟨i, f, y, rfl, hin, rfl, rfl, hf, hno, q, rfl⟩ := hrel
    have HF := Lib.hid hf
    have HNO := Lib.hid hno
    clear hf hno
    by_cases hlt : i < n
    · have hd : decide ((i : Int) < (n : Int)) = true := by simp; omega
      have hd' : decide (i < n) = true := by simp; omega
      have hil : i < zs.length := by rw [HN.out]; exact hlt
      obtain ⟨b', off', he, hb, hc⟩ := HS.out.cells (fun h => by subst h; simp at hil)
      cases he
      have c0 := hc i hil
      obtain ⟨x, hx⟩ : ∃ x, zs[i] = x := ⟨_, rfl⟩
      have hgx : zs.getD i 0 = x := by rw [← hx]; simp [List.getD, hil]
      have HX := Lib.hid hx
      have HXM : Hid (x ∈ zs) := Lib.hid (by rw [← hx]; exact List.getElem_mem hil)
      rw [hgx] at c0
      have c0' : (w.drewN q).cell? ⟨b, off + i, none⟩ = some (.int .i64 x) := c0
      have HGD : Hid (good zs p x = geB (floatOfInt .f64 ((zs.countP (· ≤ x) : Nat) : Int)) (wantF p n)) := by unfold good; rw [HN.out]; exact Lib.hid rfl
      have HCC := HB.out x (w.drewN q) (HS.out.keep ((Chg.refl _ _).drewN _))
      generalize zs.countP (· ≤ x) = kx at *
      have HC := Lib.hid HCC
      clear hc hx hgx HCC
      have STAY : good zs p x = false ∨ (f = true ∧ y ≤ x) → Hid (∀ j (hj : j < zs.length), j < i + 1 → good zs p zs[j] = true → f = true ∧ y ≤ zs[j]) := fun hor => by
        refine Lib.hid fun j hj hji hg => ?_
        rcases Nat.lt_or_ge j i with h | h
        · exact HNO.out j hj h hg
        · obtain rfl : j = i := by omega
          rw [HX.out] at hg ⊢
          rcases hor with h | h
          · rw [h] at hg; simp at hg
          · exact h
      have MOVE : good zs p x = true → ¬ (f = true ∧ y ≤ x) → Hid (∀ j (hj : j < zs.length), j < i + 1 → good zs p zs[j] = true → true = true ∧ x ≤ zs[j]) := fun hg hn => by
        refine Lib.hid fun j hj hji hg' => ⟨rfl, ?_⟩
        rcases Nat.lt_or_ge j i with h | h
        · obtain ⟨e1, e2⟩ := HNO.out j hj h hg'
          have : ¬ y ≤ x := fun h3 => hn ⟨e1, h3⟩
          omega
        · obtain rfl : j = i := by omega
          rw [HX.out]
          omega
      by_cases hsk : f = true ∧ y ≤ x
      · obtain ⟨rfl, hyx⟩ := hsk
        have q1 : decide (y ≤ x) = true := by simpa using hyx
        have HST := STAY (Or.inr ⟨rfl, hyx⟩)
        clear STAY MOVE
        go_wp2_with fail
        go_roundw
        case rel => exact ⟨i + 1, true, y, by simp, by omega, rfl, rfl, HF.out, HST.out, q, rfl⟩
        case measure => simp [intOf]; omega
      · have HMV := fun h => MOVE h hsk
        have HST := fun h => STAY (Or.inl h)
        have HMV := Lib.hid HMV
        have HST := Lib.hid HST
        clear STAY MOVE
        cases f
        · go_wp2_with (first
            | (go_at_call 46; (with_reducible refine HC.out.mono ?_); rintro r w3 ⟨rfl, q3, rfl⟩))
          · have hb : good zs p x = true := by rw [HGD.out]; exact geB_yes (by assumption)
            have hmv := (HMV.out hb).out
            go_roundw
            case rel => exact ⟨i + 1, true, x, by simp, by omega, rfl, rfl, fun _ => ⟨HXM.out, hb⟩, by simpa using hmv, _, rfl⟩
            case measure => simp [intOf]; omega
          · have hb : good zs p x = false := by rw [HGD.out]; exact geB_no (by assumption)
            have hst := (HST.out hb).out
            go_roundw
            case rel => exact ⟨i + 1, false, y, by simp, by omega, rfl, rfl, HF.out, hst, _, rfl⟩
            case measure => simp [intOf]; omega
        · have hyx : ¬ y ≤ x := fun h => hsk ⟨rfl, h⟩
          have q1 : decide (y ≤ x) = false := by simpa using hyx
          clear hsk
          go_wp2_with (first
            | (go_at_call 46; (with_reducible refine HC.out.mono ?_); rintro r w3 ⟨rfl, q3, rfl⟩))
          · have hb : good zs p x = true := by rw [HGD.out]; exact geB_yes (by assumption)
            have hmv := (HMV.out hb).out
            go_roundw
            case rel => exact ⟨i + 1, true, x, by simp, by omega, rfl, rfl, fun _ => ⟨HXM.out, hb⟩, by simpa using hmv, _, rfl⟩
            case measure => simp [intOf]; omega
          · have hb : good zs p x = false := by rw [HGD.out]; exact geB_no (by assumption)
            have hst := (HST.out hb).out
            go_roundw
            case rel => exact ⟨i + 1, true, y, by simp, by omega, rfl, rfl, by simpa using HF.out, by simpa using hst, _, rfl⟩
            case measure => simp [intOf]; omega
    · have hd : decide ((i : Int) < (n : Int)) = false := by simp; omega
      have hd' : decide (i < n) = false := by simp; omega
      obtain ⟨j, hj, hjs⟩ := List.getElem_of_mem HM.out
      have hg := HG.out
      have hm := HNO.out j hj (by have := HN.out; omega) (by rw [hjs]; exact hg)
      obtain ⟨hf, hy⟩ := hm
      subst hf
      obtain ⟨hy1, hy2⟩ := HF.out rfl
      have hle := HL.out y hy1 hy2
      rw [hjs] at hy
      have HE : Hid (y = shareOf zs p) := Lib.hid (by omega)
      clear hg hy hy1 hy2 hle hjs
      go_wp2_with fail
      go_ret2
      unfold SharePost
      rw [HE.out]
      exact ⟨rfl, (Chg.refl _ _).drewN _⟩
theorem rshare_all (A : Option Addr) (n c : Nat) (l : List Int) (p : Nat) (w : World) (hs : Sl w A l) (hl : l.length = n) :
    Calls Try.prog 22 #[.slice A n c, .float .f64 p] w fun e w' => e = .returned (.tuple #[.int .i64 (shareZ l p), .int .i64 (shareE l p)]) ∧ Chg (fun _ => False) w w' := by
  unfold shareZ shareE
  by_cases h1 : 4096 < l.length
  · rw [if_pos h1, if_pos h1]
    refine (rshare_many A n c p w (by omega)).mono ?_
    rintro e w' ⟨rfl, rfl⟩
    exact ⟨rfl, Chg.refl _ _⟩
  · rw [if_neg h1, if_neg h1]
    by_cases h2 : l = []
    · rw [if_pos h2, if_pos h2]
      obtain rfl : n = 0 := by subst h2; simpa using hl.symm
      refine (rshare_none A c p w).mono ?_
      rintro e w' ⟨rfl, rfl⟩
      exact ⟨rfl, Chg.refl _ _⟩
    · rw [if_neg h2, if_neg h2]
      have h3 : 1 ≤ n := by rw [← hl]; cases l with | nil => exact absurd rfl h2 | cons => simp
      by_cases h4 : shareB p = true
      · rw [if_pos h4, if_pos h4]
        obtain ⟨b, off, rfl, _, _⟩ := hs.cells h2
        exact rshare_ok b off n c l p w hs hl h3 (by omega) h4
      · rw [if_neg h4, if_neg h4]
        refine (rshare_bad A n c p w h3 (by omega) (by simpa using h4)).mono ?_
        rintro e w' ⟨rfl, rfl⟩
        exact ⟨rfl, Chg.refl _ _⟩
end Go.Proofs.Ytgoimoaeeiobnaa.Ga
