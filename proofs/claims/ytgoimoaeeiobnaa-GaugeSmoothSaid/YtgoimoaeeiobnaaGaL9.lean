/- The gauge's law: GaugeSmooth. -/
import Derived.Test.YtgoimoaeeiobnaaGaSe
namespace Go.Proofs.Ytgoimoaeeiobnaa.Ga
open Go.RowKit Go.Hp Go.Fl
set_option linter.unusedSimpArgs false
set_option linter.unusedVariables false
set_option maxRecDepth 100000
attribute [local go_sem] run_store_float
theorem pre_ro {w : World} {g m cx : Nat} {xs ys : List Int} (h : (ro (some ⟨g, 0, none⟩) m cx (xs ++ ys)).holds w) : Sl w (some ⟨g, 0, none⟩) xs := Sl.pre (ys := ys) h
set_option maxHeartbeats 4000000 in
theorem smooth_all9 (A : Option Addr) (n c p : Nat) (l : List Int) (w : World) (hs : Sl w A l) (hi : I64 l) (hl : l.length = n) (hn : (n + 8) * 8 ≤ 140737488355328) :
    Calls Try.prog 9 #[.slice A n c, .float .f64 p] w (TruePost w) := by
  have HL1 := Lib.hid (fun W h => lent_any A n c l W h hl hn)
  have HR1 := Lib.hid (fun W h1 => rsmooth_own A n c p l W h1 hi hl)
  have HG1 := Lib.hid (fun ga ca W h1 => smooth_own (some ⟨ga, 0, none⟩) n ca p l W h1 hi hl)
  have HST1 := Lib.hid (fun A' c' W h1 h2 => still_yes A' A n c' c l W h1 h2 hl (by omega))
  have HTU := Lib.hid (fun g cx W h => turned_any g n cx (n + 8) cx l (rep 8 (-77)) W h hl (by omega))
  have HCO1 := Lib.hid (fun A' c' xs (h1 : xs.length = n) W h => copied_any A' n c' xs W h h1 (by omega))
  have HGX := Lib.hid (fun ga ca xs (h1 : xs.length = n) (h2 : I64 xs) W h3 => smooth_own (some ⟨ga, 0, none⟩) n ca p xs W h3 h2 h1)
  have HRX := Lib.hid (fun A' ca xs (h1 : xs.length = n) (h2 : I64 xs) W h3 => rsmooth_own A' n ca p xs W h3 h2 h1)
  have hbl := smZ_len p l
  have HGD := Lib.hid (smZ_gd p l hi)
  unfold SmOwn at HR1 HG1
  generalize smE p l = e1 at *
  generalize smZ p l = bz at *
  obtain ⟨bn, hbn⟩ : ∃ bn, bz.length = bn := ⟨_, rfl⟩
  rw [hbn] at HR1 HG1 hbl
  have HS := Lib.hid hs
  have hn' : n ≤ n + 8 := by omega
  have hw8 : n ≤ 17592186044408 := by omega
  have HBL := Lib.hid hbl
  clear hs hi hl hn hbn hbl
  go_enter Try.func9, Try.ntmps9
  go_wp2_with (first
    | (go_at_call 13; (with_reducible refine (shown_any _).mono ?_); rintro r w1 ⟨rfl, hc1⟩; have HT1 := Lib.hid (jo_emp hc1); clear hc1; have HS1 := Lib.hid (HS.out.keep HT1.out.chg))
    | (go_at_call 14; (with_reducible refine (HL1.out _ HS1.out).mono ?_); rintro r w3 ⟨ga, ca, rfl, hca, ht2⟩; have hca2 : n ≤ ca := (by omega); have HT3 := Lib.hid (jo_h (jo_a HT1.out ht2) (KS.new 46 47 25 (Turns.blk_new w3 #[.slice none 0 0, .slice none 0 0] 46))); clear ht2; have HS3 := Lib.hid (HS.out.keep HT3.out.chg))
    | (go_at_call 28; (with_reducible refine (HR1.out _ HS3.out).mono ?_); rintro r w4 ⟨V, cv, rfl, ht4⟩; have HT4 := Lib.hid (jo_v HT3.out ht4); clear ht4))
  obtain ⟨gh, hgh⟩ : ∃ gh, w3.heap.size = gh := ⟨_, rfl⟩
  have HK0 : Hid (Ks.Kn (KS.empty w3.heap.size) gh 0 5000) := Lib.hid ⟨hgh, fun i hi => absurd hi (by omega)⟩
  rw [hgh]
  clear hgh
  go_loopw [9] (fun x9 wr => ∃ (i : Nat) (k : KS), x9 = .int .i64 i ∧ i ≤ 3 ∧ Ks.Kn k gh i 5000 ∧ Turns w wr Hp.Own.emp (jo (ro (some ⟨ga, 0, none⟩) (n + 8) ca (l ++ rep 8 (-77))) Hp.Own.emp (Ks.own k i 0) (rf V bn cv bz) Hp.Own.emp)) (fun x9 _ => 3 - (intOf x9).toNat)
  case atStart => exact ⟨0, KS.empty w3.heap.size, rfl, by omega, HK0.out, HT4.out⟩
  case round =>
    obtain ⟨i, k, rfl, hi3, hk, ht⟩ := hrel
    have HK := Lib.hid hk
    have HT := Lib.hid ht
    have HAT := Lib.hid (pre_ro (jo_A ht))
    clear hk ht
    by_cases hlt : i < 3
    · have hd : decide ((i : Int) < 3) = true := by simp; omega
      have hd' : decide (i < 3) = true := by simp; omega
      go_wp2_with (first
        | (go_at_call 29; (with_reducible refine (HG1.out _ _ _ HAT.out).mono ?_); rintro r w6 ⟨X, cx, rfl, ht6⟩; have HT6 := Lib.hid (jo_x HT.out ht6); clear ht6)
        | (go_at_call 30; (with_reducible refine (same_rf X V bn cx cv bz _ (jo_X HT6.out) (jo_V HT6.out) HGD.out (by have := HBL.out; omega)).mono ?_); rintro r w7 ⟨rfl, hc7⟩; have HT7 := Lib.hid (HT6.out.kept hc7); clear hc7; have HS7 := Lib.hid (HS.out.keep HT7.out.chg); have HA7 := Lib.hid (ro_sl (jo_A HT7.out)))
        | (go_at_call 18; (with_reducible refine (HST1.out _ _ _ HA7.out HS7.out).mono ?_); rintro r w9 ⟨rfl, q9, hq9⟩; have hc9 : Chg (fun _ => False) w7 w9 := (by rw [← hq9]; exact (Chg.refl _ _).drewN _); have HT9 := Lib.hid (HT7.out.kept hc9); clear hq9 hc9; have HBO9 := Lib.hid (show (Hp.Own.both (Ks.own k i 0) (Hp.Own.row 25 1 (.slice X bn cx) bn bz)).holds w9 from jo_both HT9.out))
        | (go_at_call 31; (with_reducible refine (Ks.keep_at k gh i 5000 (i + 1) rfl X bn cx bz _ HK.out HBO9.out HGD.out HBL.out (by decide) (by omega)).mono ?_); rintro r w10 ⟨rfl, k', hk', ht10⟩; have HK10 := Lib.hid hk'; have HT10 := Lib.hid (jo_hx HT9.out ht10); clear hk' ht10))
      go_roundw
      case rel => exact ⟨i + 1, k', by simp, by omega, HK10.out, HT10.out⟩
      case measure => simp [intOf]; omega
    · have hd : decide ((i : Int) < 3) = false := by simp; omega
      have hd' : decide (i < 3) = false := by simp; omega
      obtain rfl : i = 3 := by omega
      clear HT4 HK0
      go_wp2_with (first
        | (go_at_call 19; (with_reducible refine (HTU.out _ _ _ (jo_A HT.out)).mono ?_); rintro r w11 ⟨rfl, xs, hx1, hx2, ht11⟩; have HX1 := Lib.hid hx1; have HX2 := Lib.hid hx2; clear hx1 hx2; have HT11 := Lib.hid (show Turns w w11 Hp.Own.emp (jo (ro (some ⟨ga, 0, none⟩) (n + 8) ca (xs ++ rep 8 (-77))) Hp.Own.emp (Ks.own k 3 0) (rf V bn cv bz) Hp.Own.emp) from jo_a HT.out ht11); clear ht11; have HA11 := Lib.hid (pre_ro (jo_A HT11.out)))
        | (go_at_call 20; (with_reducible refine (HCO1.out _ _ xs HX1.out _ HA11.out).mono ?_); rintro r w12 ⟨C, cc, rfl, ht12⟩; have HT12 := Lib.hid (HT11.out.kept ht12.chg); have HC12 := Lib.hid (Sl.of_row (zs := xs) ht12.now); clear ht12; have HR2 := Lib.hid (fun A' ca W h1 => HRX.out A' ca xs HX1.out HX2.out W h1); have HG2 := Lib.hid (fun ga ca W h1 => HGX.out ga ca xs HX1.out HX2.out W h1); have hbl2 := smZ_len p xs; have HGD2 := Lib.hid (smZ_gd p xs HX2.out); unfold SmOwn at HR2 HG2; generalize smE p xs = e2 at *; generalize smZ p xs = bz2 at *; obtain ⟨bn2, hbn2⟩ : ∃ bn2, bz2.length = bn2 := ⟨_, rfl⟩; rw [hbn2] at HR2 HG2 hbl2; have HBL2 := Lib.hid hbl2; clear hbn2 hbl2)
        | (go_at_call 28; (with_reducible refine (HR2.out _ _ _ HC12.out).mono ?_); rintro r w13 ⟨V2, cv2, rfl, ht13⟩; have HT13 := Lib.hid (jo_v HT12.out (ht13.wide _)); clear ht13; have HA13 := Lib.hid (pre_ro (jo_A HT13.out)))
        | (go_at_call 29; (with_reducible refine (HG2.out _ _ _ HA13.out).mono ?_); rintro r w14 ⟨X2, cx2, rfl, ht14⟩; have HT14 := Lib.hid (jo_x HT13.out ht14); clear ht14)
        | (go_at_call 30; (with_reducible refine (same_rf X2 V2 bn2 cx2 cv2 bz2 _ (jo_X HT14.out) (jo_V HT14.out) HGD2.out (by have := HBL2.out; omega)).mono ?_); rintro r w15 ⟨rfl, hc15⟩; have HT15 := Lib.hid (HT14.out.kept hc15); clear hc15; have HBO15 := Lib.hid (show (Hp.Own.both (Ks.own k 3 0) (Hp.Own.row 25 1 (.slice X2 bn2 cx2) bn2 bz2)).holds w15 from jo_both HT15.out))
        | (go_at_call 31; (with_reducible refine (Ks.keep_at k gh 3 5000 4 rfl X2 bn2 cx2 bz2 _ HK.out HBO15.out HGD2.out HBL2.out (by decide) (by omega)).mono ?_); rintro r w16 ⟨rfl, k4, hk4, ht16⟩; have HK16 := Lib.hid hk4; have HT16 := Lib.hid (jo_hx HT15.out ht16); clear hk4 ht16; have HH16 := Lib.hid (jo_H HT16.out))
        | (go_at_call 32; (with_reducible refine (Ks.spoil_at k4 gh 4 5000 _ HK16.out HH16.out (by decide) (by omega)).mono ?_); rintro r w24 ⟨rfl, hc24⟩; have HC24 := Lib.hid (jo_new HT16.out hc24); clear hc24))
      go_ret
      exact ⟨rfl, HC24.out⟩
theorem smooth_law (v0 : Value) (p : Nat) (w : World) (h0 : ArgOk Try.prog w 22 v0) :
    Calls Try.prog 9 #[v0, .float .f64 p] w fun e w' => e = .returned (.bool true) ∧ Below w.heap.size w w' := by
  obtain ⟨A, l, c, rfl, hw, hs⟩ := ints_sl h0
  refine (smooth_all9 A _ c p l w hs (fun x hx => wf_i64 (hw x hx)) rfl (ints_len8 h0)).mono ?_
  rintro e w' ⟨he, hc⟩
  exact ⟨he, hc.below (fun k h => h.elim) (Nat.le_refl _)⟩
end Go.Proofs.Ytgoimoaeeiobnaa.Ga
