/- The gauge's law: GaugeBars. -/
import Derived.Test.YtgoimoaeeiobnaaGaKe
namespace Go.Proofs.Ytgoimoaeeiobnaa.Ga
open Go.RowKit Go.Hp Go.Fl
set_option linter.unusedSimpArgs false
set_option linter.unusedVariables false
set_option maxRecDepth 100000
attribute [local go_sem] run_store_float
theorem ro_pre {w : World} {g m cx : Nat} {xs ys : List Int} (h : (ro (some ⟨g, 0, none⟩) m cx (xs ++ ys)).holds w) : Sl w (some ⟨g, 0, none⟩) xs := Sl.pre (ys := ys) h
theorem gd_iv (zs : List Int) : Kc.Gd (iv zs) := ⟨zs, rfl⟩
theorem iv_set (zs ys : List Int) (j : Nat) (hj : j < zs.length) (v : Int) : (iv (zs ++ ys)).set j (.int .i64 v) = iv (zs.set j v ++ ys) := by
  unfold iv
  rw [← List.map_set, List.set_append_left _ _ hj]
set_option maxHeartbeats 4000000 in
theorem bars_all5 (A B : Option Addr) (n m c d : Nat) (l es : List Int) (w : World) (hs : Sl w A l) (hl : l.length = n) (hn : (n + 8) * 8 ≤ 140737488355328) (ht : Sl w B es) (hm : es.length = m) (hmm : (m + 8) * 8 ≤ 140737488355328) :
    Calls Try.prog 5 #[.slice A n c, .slice B m d] w (TruePost w) := by
  have HL1 := Lib.hid (fun W h => lent_any A n c l W h hl hn)
  have HL2 := Lib.hid (fun W h => lent_any B m d es W h hm hmm)
  have HR1 := Lib.hid (fun W h1 h2 => rbars_own A B n m c d l es W h1 h2 hm hl)
  have HG1 := Lib.hid (fun ga gb ca cb W h1 h2 => bars_own (some ⟨ga, 0, none⟩) (some ⟨gb, 0, none⟩) n m ca cb l es W h1 h2 hm hl)
  have HST1 := Lib.hid (fun A' c' W h1 h2 => still_yes A' A n c' c l W h1 h2 hl (by omega))
  have HST2 := Lib.hid (fun A' c' W h1 h2 => still_yes A' B m c' d es W h1 h2 hm (by omega))
  have HTU := Lib.hid (fun g cx W h => turned_any g n cx (n + 8) cx l (rep 8 (-77)) W h hl (by omega))
  have HCO1 := Lib.hid (fun A' c' xs (h1 : xs.length = n) W h => copied_any A' n c' xs W h h1 (by omega))
  have HCO2 := Lib.hid (fun A' c' xs (h1 : xs.length = m) W h => copied_any A' m c' xs W h h1 (by omega))
  have HGX := Lib.hid (fun ga gb ca cb xs ys (h1 : xs.length = n) (h2 : ys.length = m) W h3 h4 => bars_own (some ⟨ga, 0, none⟩) (some ⟨gb, 0, none⟩) n m ca cb xs ys W h3 h4 h2 h1)
  have HRX := Lib.hid (fun A' B' ca cb xs ys (h1 : xs.length = n) (h2 : ys.length = m) W h3 h4 => rbars_own A' B' n m ca cb xs ys W h3 h4 h2 h1)
  have hbl := barsZ_len l es
  unfold BarsOwn at HR1 HG1
  generalize barsE l es = e1 at *
  generalize barsZ l es = bz at *
  obtain ⟨bn, hbn⟩ : ∃ bn, bz.length = bn := ⟨_, rfl⟩
  rw [hbn] at HR1 HG1 hbl
  have HS := Lib.hid hs
  have HB := Lib.hid ht
  have HM := Lib.hid hm
  have HLN := Lib.hid hl
  have hn' : n ≤ n + 8 := by omega
  have hm' : m ≤ m + 8 := by omega
  have hw8 : n ≤ 17592186044408 := by omega
  have hv8 : m ≤ 17592186044408 := by omega
  have HBL := Lib.hid hbl
  clear hs ht hl hn hm hmm hbn hbl
  go_enter Try.func5, Try.ntmps5
  go_wp2_with (first
    | (go_at_call 13; (with_reducible refine (shown_any _).mono ?_); rintro r w1 ⟨rfl, hc1⟩; have HT1 := Lib.hid (jo_emp hc1); clear hc1; have HS1 := Lib.hid (HS.out.keep HT1.out.chg))
    | (go_at_call 14; (with_reducible refine (HL1.out _ HS1.out).mono ?_); rintro r w2 ⟨ga, ca, rfl, hca, ht2⟩; have HT2 := Lib.hid (jo_a HT1.out ht2); clear ht2; have hca2 : n ≤ ca := (by omega); have HB2 := Lib.hid (HB.out.keep HT2.out.chg))
    | (go_at_call 14; (with_reducible refine (HL2.out _ HB2.out).mono ?_); rintro r w3 ⟨gb, cb, rfl, hcb, ht3⟩; have HT3 := Lib.hid (jo_h (jo_b HT2.out ht3) (KS.new 39 22 3 (Turns.blk_new w3 #[.slice none 0 0, .slice none 0 0] 39))); clear ht3; have hcb2 : m ≤ cb := (by omega); have HS3 := Lib.hid (HS.out.keep HT3.out.chg); have HB3 := Lib.hid (HB.out.keep HT3.out.chg))
    | (go_at_call 23; (with_reducible refine (HR1.out _ HB3.out HS3.out).mono ?_); rintro r w4 ⟨V, cv, rfl, ht4⟩; have HT4 := Lib.hid (jo_v HT3.out ht4); clear ht4))
  obtain ⟨gh, hgh⟩ : ∃ gh, w3.heap.size = gh := ⟨_, rfl⟩
  have HK0 : Hid (Kc.Kn (KS.empty w3.heap.size) gh 0 5000) := Lib.hid ⟨hgh, fun i hi => absurd hi (by omega)⟩
  rw [hgh]
  clear hgh
  go_loopw [10] (fun x10 wr => ∃ (i : Nat) (k : KS), x10 = .int .i64 i ∧ i ≤ 3 ∧ Kc.Kn k gh i 5000 ∧ Turns w wr Hp.Own.emp (jo (ro (some ⟨ga, 0, none⟩) (n + 8) ca (l ++ rep 8 (-77))) (ro (some ⟨gb, 0, none⟩) (m + 8) cb (es ++ rep 8 (-77))) (Kc.own k i 0) (ro V bn cv bz) Hp.Own.emp)) (fun x10 _ => 3 - (intOf x10).toNat)
  case atStart => exact ⟨0, KS.empty w3.heap.size, rfl, by omega, HK0.out, HT4.out⟩
  case round =>
    obtain ⟨i, k, rfl, hi3, hk, ht⟩ := hrel
    have HK := Lib.hid hk
    have HT := Lib.hid ht
    clear hk ht
    by_cases hlt : i < 3
    · have hd : decide ((i : Int) < 3) = true := by simp; omega
      have hd' : decide (i < 3) = true := by simp; omega
      go_wp2_with fail
      go_region_held3 (fun _ => True) (trivial)
        (first
          | (go_at_call 24; (with_reducible refine (HG1.out _ _ _ _ _ ?_ ?_).mono ?_); exact (ro_pre (jo_B HT.out)).keep (Chg.refl _ _).drew; exact (ro_pre (jo_A HT.out)).keep (Chg.refl _ _).drew; rintro r w6 ⟨X, cx, rfl, ht6⟩; have HT6 := Lib.hid (jo_x HT.out ht6.drewl); clear ht6))
      go_wp2_with (first
        | (go_at_call 25; (with_reducible refine (same_ro X V bn cx cv bz _ (jo_X HT6.out) (jo_V HT6.out) (by have := HBL.out; omega)).mono ?_); rintro r w7 ⟨rfl, hc7⟩; have HT7 := Lib.hid (HT6.out.kept hc7); clear hc7; have HS7 := Lib.hid (HS.out.keep HT7.out.chg); have HA7 := Lib.hid (ro_sl (jo_A HT7.out)))
        | (go_at_call 18; (with_reducible refine (HST1.out _ _ _ HA7.out HS7.out).mono ?_); rintro r w8 ⟨rfl, q8, hq8⟩; have hc8 : Chg (fun _ => False) w7 w8 := (by rw [← hq8]; exact (Chg.refl _ _).drewN _); have HT8 := Lib.hid (HT7.out.kept hc8); clear hq8 hc8; have HB8 := Lib.hid (HB.out.keep HT8.out.chg); have HE8 := Lib.hid (ro_sl (jo_B HT8.out)))
        | (go_at_call 18; (with_reducible refine (HST2.out _ _ _ HE8.out HB8.out).mono ?_); rintro r w9 ⟨rfl, q9, hq9⟩; have hc9 : Chg (fun _ => False) w8 w9 := (by rw [← hq9]; exact (Chg.refl _ _).drewN _); have HT9 := Lib.hid (HT8.out.kept hc9); clear hq9 hc9; have HBO9 := Lib.hid (show (Hp.Own.both (Kc.own k i 0) (Hp.Own.row 3 1 (.slice X bn cx) bn (iv bz))).holds w9 from jo_both HT9.out))
        | (go_at_call 26; (with_reducible refine (Kc.keep_at k gh i 5000 (i + 1) rfl X bn cx (iv bz) _ HK.out HBO9.out (gd_iv bz) HBL.out (by decide) (by omega)).mono ?_); rintro r w10 ⟨rfl, k', hk', ht10⟩; have HK10 := Lib.hid hk'; have HT10 := Lib.hid (jo_hx HT9.out ht10); clear hk' ht10))
      go_roundw
      case rel => exact ⟨i + 1, k', by simp, by omega, HK10.out, HT10.out⟩
      case measure => simp [intOf]; omega
    · have hd : decide ((i : Int) < 3) = false := by simp; omega
      have hd' : decide (i < 3) = false := by simp; omega
      obtain rfl : i = 3 := by omega
      clear HT4 HK0
      go_wp2_with (first
        | (go_at_call 19; (with_reducible refine (HTU.out _ _ _ (jo_A HT.out)).mono ?_); rintro r w11 ⟨rfl, xs, hx1, _, ht11⟩; have HX1 := Lib.hid hx1; clear hx1; have HT11 := Lib.hid (show Turns w w11 Hp.Own.emp (jo (ro (some ⟨ga, 0, none⟩) (n + 8) ca (xs ++ rep 8 (-77))) (ro (some ⟨gb, 0, none⟩) (m + 8) cb (es ++ rep 8 (-77))) (Kc.own k 3 0) (ro V bn cv bz) Hp.Own.emp) from jo_a HT.out ht11); clear ht11; have HA11 := Lib.hid (ro_pre (jo_A HT11.out)))
        | (go_at_call 20; (with_reducible refine (HCO1.out _ _ xs HX1.out _ HA11.out).mono ?_); rintro r w12 ⟨C, cc, rfl, ht12⟩; have HT12 := Lib.hid (HT11.out.kept ht12.chg); have HC12 := Lib.hid (Sl.of_row (zs := xs) ht12.now); clear ht12; have HB12 := Lib.hid (HB.out.keep HT12.out.chg); have HR2 := Lib.hid (fun A' ca W h1 h2 => HRX.out A' B ca d xs es HX1.out HM.out W h1 h2); have HG2 := Lib.hid (fun ga gb ca cb W h1 h2 => HGX.out ga gb ca cb xs es HX1.out HM.out W h1 h2); have hbl2 := barsZ_len xs es; unfold BarsOwn at HR2 HG2; generalize barsE xs es = e2 at *; generalize barsZ xs es = bz2 at *; obtain ⟨bn2, hbn2⟩ : ∃ bn2, bz2.length = bn2 := ⟨_, rfl⟩; rw [hbn2] at HR2 HG2 hbl2; have HBL2 := Lib.hid hbl2; clear hbn2 hbl2)
        | (go_at_call 23; (with_reducible refine (HR2.out _ _ _ HB12.out HC12.out).mono ?_); rintro r w13 ⟨V2, cv2, rfl, ht13⟩; have HT13 := Lib.hid (jo_v HT12.out (ht13.wide _)); clear ht13))
      clear HT HT11 HT12
      go_region_held3 (fun _ => True) (trivial)
        (first
          | (go_at_call 24; (with_reducible refine (HG2.out _ _ _ _ _ ?_ ?_).mono ?_); exact (ro_pre (jo_B HT13.out)).keep (Chg.refl _ _).drew; exact (ro_pre (jo_A HT13.out)).keep (Chg.refl _ _).drew; rintro r w14 ⟨X2, cx2, rfl, ht14⟩; have HT14 := Lib.hid (jo_x HT13.out ht14.drewl); clear ht14))
      by_cases hm0 : 0 < m
      · have q1 : decide (0 < (m : Int)) = true := by simp; omega
        have q1' : decide (0 < m) = true := by simp; omega
        have hml : m - 1 < es.length := by rw [HM.out]; omega
        obtain ⟨ev, hev⟩ : ∃ ev, es[m - 1] = ev := ⟨_, rfl⟩
        have HEV : Hid ((iv (es ++ rep 8 (-77)))[m - 1]? = some (.int .i64 ev)) := Lib.hid (by unfold iv; rw [List.getElem?_map, List.getElem?_append_left hml, List.getElem?_eq_getElem hml, hev]; rfl)
        have HIS := Lib.hid (fun v => iv_set es (rep 8 (-77)) (m - 1) hml v)
        have HYL := Lib.hid (fun v : Int => show (es.set (m - 1) v).length = m by rw [List.length_set]; exact HM.out)
        have hw : IntKind.i64.wrap ((m : Int) - 1) = ((m - 1 : Nat) : Int) := by rw [IntWalk.i64_in _ (by omega)]; omega
        have hm8 : m - 1 < m + 8 := by omega
        clear hev hml
        by_cases hlt2 : ev < 4611686018427387904
        · have q2 : decide (ev < 4611686018427387904) = true := by simpa using hlt2
          go_wp2_with (first
            | (go_at_call 25; (with_reducible refine (same_ro X2 V2 bn2 cx2 cv2 bz2 _ (jo_X HT14.out) (jo_V HT14.out) (by have := HBL2.out; omega)).mono ?_); rintro r w15 ⟨rfl, hc15⟩; have HT15 := Lib.hid (HT14.out.kept hc15); clear hc15; have HBO15 := Lib.hid (show (Hp.Own.both (Kc.own k 3 0) (Hp.Own.row 3 1 (.slice X2 bn2 cx2) bn2 (iv bz2))).holds w15 from jo_both HT15.out))
            | (go_at_call 26; (with_reducible refine (Kc.keep_at k gh 3 5000 4 rfl X2 bn2 cx2 (iv bz2) _ HK.out HBO15.out (gd_iv bz2) HBL2.out (by decide) (by omega)).mono ?_); rintro r w16 ⟨rfl, k4, hk4, ht16⟩; have HK16 := Lib.hid hk4; have HT16 := Lib.hid (jo_hx HT15.out ht16); clear hk4 ht16; have hrow := (show w16.ownsRow 0 3 1 (.slice (some ⟨gb, 0, none⟩) (m + 8) cb) (m + 8) (iv (es ++ rep 8 (-77))) from jo_B HT16.out); obtain ⟨p1, p2⟩ := row_at hrow (m - 1) HEV.out; have HSET := Lib.hid (fun v => Turns.row_set hrow (m - 1) (.int .i64 v)); clear hrow))
          obtain ⟨ys, hys⟩ : ∃ ys, es.set (m - 1) (wrap64 (ev + 1)) = ys := ⟨_, rfl⟩
          have HT17 := Lib.hid (show Turns w (w16.setCell ⟨gb, m - 1, none⟩ (.int .i64 (wrap64 (ev + 1)))) Hp.Own.emp (jo (ro (some ⟨ga, 0, none⟩) (n + 8) ca (xs ++ rep 8 (-77))) (ro (some ⟨gb, 0, none⟩) (m + 8) cb (ys ++ rep 8 (-77))) (Kc.own k4 4 0) (ro V2 bn2 cv2 bz2) Hp.Own.emp) from jo_b HT16.out (by have h := HSET.out (wrap64 (ev + 1)); rw [HIS.out, hys] at h; exact h))
          have HY : Hid (ys.length = m) := by rw [← hys]; exact Lib.hid (HYL.out _)
          clear hys HSET HIS

          have HRN := Lib.hid (fun A' B' ca cb W h1 h2 => HRX.out A' B' ca cb xs ys HX1.out HY.out W h1 h2)
          have HGN := Lib.hid (fun ga gb ca cb W h1 h2 => HGX.out ga gb ca cb xs ys HX1.out HY.out W h1 h2)
          have hbl3 := barsZ_len xs ys
          unfold BarsOwn at HRN HGN
          generalize barsE xs ys = e3 at *
          generalize barsZ xs ys = bz3 at *
          obtain ⟨bn3, hbn3⟩ : ∃ bn3, bz3.length = bn3 := ⟨_, rfl⟩
          rw [hbn3] at HRN HGN hbl3
          have HBL3 := Lib.hid hbl3
          clear hbn3 hbl3
          go_region_held3 (fun _ => True) (trivial)
            (first
              | (go_at_call 20; (with_reducible refine (HCO1.out _ _ xs HX1.out _ ?_).mono ?_); exact (ro_pre (jo_A HT17.out)).keep (Chg.refl _ _).drew; rintro r w18 ⟨C1, cc1, rfl, ht18⟩; have HT18 := Lib.hid (HT17.out.kept ht18.drewl.chg); have HC18 := Lib.hid (Sl.of_row (zs := xs) ht18.now); clear ht18)
              | (go_at_call 20; (with_reducible refine (HCO2.out _ _ ys HY.out _ (ro_pre (jo_B HT18.out))).mono ?_); rintro r w19 ⟨C2, cc2, rfl, ht19⟩; have HT19 := Lib.hid (HT18.out.kept ht19.chg); have HC19 := Lib.hid (HC18.out.keep ht19.chg); have HD19 := Lib.hid (Sl.of_row (zs := ys) ht19.now); clear ht19)
              | (go_at_call 23; (with_reducible refine (HRN.out _ _ _ _ _ HD19.out HC19.out).mono ?_); rintro r w20 ⟨V3, cv3, rfl, ht20⟩; have HT20 := Lib.hid (jo_v HT19.out (ht20.wide _)); clear ht20))
          go_wp2_with fail
          go_region_held3 (fun _ => True) (trivial)
            (first
              | (go_at_call 24; (with_reducible refine (HGN.out _ _ _ _ _ ?_ ?_).mono ?_); exact (ro_pre (jo_B HT20.out)).keep (Chg.refl _ _).drew; exact (ro_pre (jo_A HT20.out)).keep (Chg.refl _ _).drew; rintro r w21 ⟨X3, cx3, rfl, ht21⟩; have HT21 := Lib.hid (jo_x HT20.out ht21.drewl); clear ht21))
          go_wp2_with (first
            | (go_at_call 25; (with_reducible refine (same_ro X3 V3 bn3 cx3 cv3 bz3 _ (jo_X HT21.out) (jo_V HT21.out) (by have := HBL3.out; omega)).mono ?_); rintro r w22 ⟨rfl, hc22⟩; have HT22 := Lib.hid (HT21.out.kept hc22); clear hc22; have HBO22 := Lib.hid (show (Hp.Own.both (Kc.own k4 4 0) (Hp.Own.row 3 1 (.slice X3 bn3 cx3) bn3 (iv bz3))).holds w22 from jo_both HT22.out))
            | (go_at_call 26; (with_reducible refine (Kc.keep_at k4 gh 4 5000 5 rfl X3 bn3 cx3 (iv bz3) _ HK16.out HBO22.out (gd_iv bz3) HBL3.out (by decide) (by omega)).mono ?_); rintro r w23 ⟨rfl, k5, hk5, ht23⟩; have HK23 := Lib.hid hk5; have HT23 := Lib.hid (jo_hx HT22.out ht23); clear hk5 ht23; have HH23 := Lib.hid (jo_H HT23.out))
            | (go_at_call 27; (with_reducible refine (Kc.spoil_at k5 gh 5 5000 _ HK23.out HH23.out (by decide) (by omega)).mono ?_); rintro r w24 ⟨rfl, hc24⟩; have HC24 : Hid (Chg (fun _ => False) w w24) := Lib.hid (jo_new (H := Kc.own k5 5 0) HT23.out hc24); clear hc24))
          go_ret
          exact ⟨rfl, HC24.out⟩
        · have q2 : decide (ev < 4611686018427387904) = false := by simpa using hlt2
          go_wp2_with (first
            | (go_at_call 25; (with_reducible refine (same_ro X2 V2 bn2 cx2 cv2 bz2 _ (jo_X HT14.out) (jo_V HT14.out) (by have := HBL2.out; omega)).mono ?_); rintro r w15 ⟨rfl, hc15⟩; have HT15 := Lib.hid (HT14.out.kept hc15); clear hc15; have HBO15 := Lib.hid (show (Hp.Own.both (Kc.own k 3 0) (Hp.Own.row 3 1 (.slice X2 bn2 cx2) bn2 (iv bz2))).holds w15 from jo_both HT15.out))
            | (go_at_call 26; (with_reducible refine (Kc.keep_at k gh 3 5000 4 rfl X2 bn2 cx2 (iv bz2) _ HK.out HBO15.out (gd_iv bz2) HBL2.out (by decide) (by omega)).mono ?_); rintro r w16 ⟨rfl, k4, hk4, ht16⟩; have HK16 := Lib.hid hk4; have HT16 := Lib.hid (jo_hx HT15.out ht16); clear hk4 ht16; have hrow := (show w16.ownsRow 0 3 1 (.slice (some ⟨gb, 0, none⟩) (m + 8) cb) (m + 8) (iv (es ++ rep 8 (-77))) from jo_B HT16.out); obtain ⟨p1, p2⟩ := row_at hrow (m - 1) HEV.out; have HSET := Lib.hid (fun v => Turns.row_set hrow (m - 1) (.int .i64 v)); clear hrow))
          clear HSET HIS
          obtain ⟨ys, hys⟩ : ∃ ys, es = ys := ⟨_, rfl⟩
          have HT17 := HT16
          rw [hys] at HT17
          have HY : Hid (ys.length = m) := by rw [← hys]; exact HM
          clear hys
          have HRN := Lib.hid (fun A' B' ca cb W h1 h2 => HRX.out A' B' ca cb xs ys HX1.out HY.out W h1 h2)
          have HGN := Lib.hid (fun ga gb ca cb W h1 h2 => HGX.out ga gb ca cb xs ys HX1.out HY.out W h1 h2)
          have hbl3 := barsZ_len xs ys
          unfold BarsOwn at HRN HGN
          generalize barsE xs ys = e3 at *
          generalize barsZ xs ys = bz3 at *
          obtain ⟨bn3, hbn3⟩ : ∃ bn3, bz3.length = bn3 := ⟨_, rfl⟩
          rw [hbn3] at HRN HGN hbl3
          have HBL3 := Lib.hid hbl3
          clear hbn3 hbl3
          go_region_held3 (fun _ => True) (trivial)
            (first
              | (go_at_call 20; (with_reducible refine (HCO1.out _ _ xs HX1.out _ ?_).mono ?_); exact (ro_pre (jo_A HT17.out)).keep (Chg.refl _ _).drew; rintro r w18 ⟨C1, cc1, rfl, ht18⟩; have HT18 := Lib.hid (HT17.out.kept ht18.drewl.chg); have HC18 := Lib.hid (Sl.of_row (zs := xs) ht18.now); clear ht18)
              | (go_at_call 20; (with_reducible refine (HCO2.out _ _ ys HY.out _ (ro_pre (jo_B HT18.out))).mono ?_); rintro r w19 ⟨C2, cc2, rfl, ht19⟩; have HT19 := Lib.hid (HT18.out.kept ht19.chg); have HC19 := Lib.hid (HC18.out.keep ht19.chg); have HD19 := Lib.hid (Sl.of_row (zs := ys) ht19.now); clear ht19)
              | (go_at_call 23; (with_reducible refine (HRN.out _ _ _ _ _ HD19.out HC19.out).mono ?_); rintro r w20 ⟨V3, cv3, rfl, ht20⟩; have HT20 := Lib.hid (jo_v HT19.out (ht20.wide _)); clear ht20))
          go_wp2_with fail
          go_region_held3 (fun _ => True) (trivial)
            (first
              | (go_at_call 24; (with_reducible refine (HGN.out _ _ _ _ _ ?_ ?_).mono ?_); exact (ro_pre (jo_B HT20.out)).keep (Chg.refl _ _).drew; exact (ro_pre (jo_A HT20.out)).keep (Chg.refl _ _).drew; rintro r w21 ⟨X3, cx3, rfl, ht21⟩; have HT21 := Lib.hid (jo_x HT20.out ht21.drewl); clear ht21))
          go_wp2_with (first
            | (go_at_call 25; (with_reducible refine (same_ro X3 V3 bn3 cx3 cv3 bz3 _ (jo_X HT21.out) (jo_V HT21.out) (by have := HBL3.out; omega)).mono ?_); rintro r w22 ⟨rfl, hc22⟩; have HT22 := Lib.hid (HT21.out.kept hc22); clear hc22; have HBO22 := Lib.hid (show (Hp.Own.both (Kc.own k4 4 0) (Hp.Own.row 3 1 (.slice X3 bn3 cx3) bn3 (iv bz3))).holds w22 from jo_both HT22.out))
            | (go_at_call 26; (with_reducible refine (Kc.keep_at k4 gh 4 5000 5 rfl X3 bn3 cx3 (iv bz3) _ HK16.out HBO22.out (gd_iv bz3) HBL3.out (by decide) (by omega)).mono ?_); rintro r w23 ⟨rfl, k5, hk5, ht23⟩; have HK23 := Lib.hid hk5; have HT23 := Lib.hid (jo_hx HT22.out ht23); clear hk5 ht23; have HH23 := Lib.hid (jo_H HT23.out))
            | (go_at_call 27; (with_reducible refine (Kc.spoil_at k5 gh 5 5000 _ HK23.out HH23.out (by decide) (by omega)).mono ?_); rintro r w24 ⟨rfl, hc24⟩; have HC24 : Hid (Chg (fun _ => False) w w24) := Lib.hid (jo_new (H := Kc.own k5 5 0) HT23.out hc24); clear hc24))
          go_ret
          exact ⟨rfl, HC24.out⟩
      · have q1 : decide (0 < (m : Int)) = false := by simp; omega
        have q1' : decide (0 < m) = false := by simp; omega
        go_wp2_with (first
          | (go_at_call 25; (with_reducible refine (same_ro X2 V2 bn2 cx2 cv2 bz2 _ (jo_X HT14.out) (jo_V HT14.out) (by have := HBL2.out; omega)).mono ?_); rintro r w15 ⟨rfl, hc15⟩; have HT15 := Lib.hid (HT14.out.kept hc15); clear hc15; have HBO15 := Lib.hid (show (Hp.Own.both (Kc.own k 3 0) (Hp.Own.row 3 1 (.slice X2 bn2 cx2) bn2 (iv bz2))).holds w15 from jo_both HT15.out))
          | (go_at_call 26; (with_reducible refine (Kc.keep_at k gh 3 5000 4 rfl X2 bn2 cx2 (iv bz2) _ HK.out HBO15.out (gd_iv bz2) HBL2.out (by decide) (by omega)).mono ?_); rintro r w16 ⟨rfl, k4, hk4, ht16⟩; have HK16 := Lib.hid hk4; have HT16 := Lib.hid (jo_hx HT15.out ht16); clear hk4 ht16))
        obtain ⟨ys, hys⟩ : ∃ ys, es = ys := ⟨_, rfl⟩
        have HT17 := HT16
        rw [hys] at HT17
        have HY : Hid (ys.length = m) := by rw [← hys]; exact HM
        clear hys
        have HRN := Lib.hid (fun A' B' ca cb W h1 h2 => HRX.out A' B' ca cb xs ys HX1.out HY.out W h1 h2)
        have HGN := Lib.hid (fun ga gb ca cb W h1 h2 => HGX.out ga gb ca cb xs ys HX1.out HY.out W h1 h2)
        have hbl3 := barsZ_len xs ys
        unfold BarsOwn at HRN HGN
        generalize barsE xs ys = e3 at *
        generalize barsZ xs ys = bz3 at *
        obtain ⟨bn3, hbn3⟩ : ∃ bn3, bz3.length = bn3 := ⟨_, rfl⟩
        rw [hbn3] at HRN HGN hbl3
        have HBL3 := Lib.hid hbl3
        clear hbn3 hbl3
        go_region_held3 (fun _ => True) (trivial)
          (first
            | (go_at_call 20; (with_reducible refine (HCO1.out _ _ xs HX1.out _ ?_).mono ?_); exact (ro_pre (jo_A HT17.out)).keep (Chg.refl _ _).drew; rintro r w18 ⟨C1, cc1, rfl, ht18⟩; have HT18 := Lib.hid (HT17.out.kept ht18.drewl.chg); have HC18 := Lib.hid (Sl.of_row (zs := xs) ht18.now); clear ht18)
            | (go_at_call 20; (with_reducible refine (HCO2.out _ _ ys HY.out _ (ro_pre (jo_B HT18.out))).mono ?_); rintro r w19 ⟨C2, cc2, rfl, ht19⟩; have HT19 := Lib.hid (HT18.out.kept ht19.chg); have HC19 := Lib.hid (HC18.out.keep ht19.chg); have HD19 := Lib.hid (Sl.of_row (zs := ys) ht19.now); clear ht19)
            | (go_at_call 23; (with_reducible refine (HRN.out _ _ _ _ _ HD19.out HC19.out).mono ?_); rintro r w20 ⟨V3, cv3, rfl, ht20⟩; have HT20 := Lib.hid (jo_v HT19.out (ht20.wide _)); clear ht20))
        go_wp2_with fail
        go_region_held3 (fun _ => True) (trivial)
          (first
            | (go_at_call 24; (with_reducible refine (HGN.out _ _ _ _ _ ?_ ?_).mono ?_); exact (ro_pre (jo_B HT20.out)).keep (Chg.refl _ _).drew; exact (ro_pre (jo_A HT20.out)).keep (Chg.refl _ _).drew; rintro r w21 ⟨X3, cx3, rfl, ht21⟩; have HT21 := Lib.hid (jo_x HT20.out ht21.drewl); clear ht21))
        go_wp2_with (first
          | (go_at_call 25; (with_reducible refine (same_ro X3 V3 bn3 cx3 cv3 bz3 _ (jo_X HT21.out) (jo_V HT21.out) (by have := HBL3.out; omega)).mono ?_); rintro r w22 ⟨rfl, hc22⟩; have HT22 := Lib.hid (HT21.out.kept hc22); clear hc22; have HBO22 := Lib.hid (show (Hp.Own.both (Kc.own k4 4 0) (Hp.Own.row 3 1 (.slice X3 bn3 cx3) bn3 (iv bz3))).holds w22 from jo_both HT22.out))
          | (go_at_call 26; (with_reducible refine (Kc.keep_at k4 gh 4 5000 5 rfl X3 bn3 cx3 (iv bz3) _ HK16.out HBO22.out (gd_iv bz3) HBL3.out (by decide) (by omega)).mono ?_); rintro r w23 ⟨rfl, k5, hk5, ht23⟩; have HK23 := Lib.hid hk5; have HT23 := Lib.hid (jo_hx HT22.out ht23); clear hk5 ht23; have HH23 := Lib.hid (jo_H HT23.out))
          | (go_at_call 27; (with_reducible refine (Kc.spoil_at k5 gh 5 5000 _ HK23.out HH23.out (by decide) (by omega)).mono ?_); rintro r w24 ⟨rfl, hc24⟩; have HC24 : Hid (Chg (fun _ => False) w w24) := Lib.hid (jo_new (H := Kc.own k5 5 0) HT23.out hc24); clear hc24))
        go_ret
        exact ⟨rfl, HC24.out⟩
theorem bars_law (v0 v1 : Value) (w : World) (h0 : ArgOk Try.prog w 22 v0) (h1 : ArgOk Try.prog w 22 v1) :
    Calls Try.prog 5 #[v0, v1] w fun e w' => e = .returned (.bool true) ∧ Below w.heap.size w w' := by
  obtain ⟨A, l, c, rfl, hw, hs⟩ := ints_sl h0
  obtain ⟨B, es, d, rfl, _, ht⟩ := ints_sl h1
  refine (bars_all5 A B _ _ c d l es w hs rfl (ints_len8 h0) ht rfl (ints_len8 h1)).mono ?_
  rintro e w' ⟨he, hc⟩
  exact ⟨he, hc.below (fun k h => h.elim) (Nat.le_refl _)⟩
end Go.Proofs.Ytgoimoaeeiobnaa.Ga
