/- The reference's reader: its methods but Bytes and Text. -/
import Derived.Test.YtkpgdonpmfebaaaByL
namespace Go.Proofs.Ytkpgdonpmfebaaa.Bt
open Go.RowKit Go.Hp
attribute [local go_sem] min2_lean min_two max2_lean max_two
set_option linter.unusedSimpArgs false
set_option linter.unusedVariables false
set_option maxRecDepth 100000

theorem lk_bounds (last most : Nat) (bs : List UInt8) (a : Nat) (ha : a ≤ bs.length) : a + (lk last most bs a).2.1 ≤ bs.length := by
  have hp := gr_place (last + 1) most bs (last + 1) 0 0 a ha
  unfold lk
  generalize gr (last + 1) most bs (last + 1) 0 0 a = q at *
  simp only []
  split
  · show a + (q.2.1 - a) ≤ _; omega
  · show a + 0 ≤ _; omega
theorem lk_small (bs : List UInt8) (a : Nat) : (lk 8 127 bs a).1 < 9223372036854775808 := by
  have hv := gr_val 9 127 bs 9 0 0 a rfl (by decide)
  have h128 : (128 : Nat) ^ 9 = 9223372036854775808 := by decide
  unfold lk
  simp only [Nat.reduceAdd]
  generalize gr 9 127 bs 9 0 0 a = q at *
  split
  · show q.1 < _; omega
  · show 0 < _; omega
theorem lk_wide (bs : List UInt8) (a : Nat) : (lk 9 1 bs a).1 < 2 ^ 64 := by
  have hv := gr_val10 bs 10 0 0 a rfl (by decide) (by omega)
  unfold lk
  simp only [Nat.reduceAdd]
  generalize gr 10 1 bs 10 0 0 a = q at *
  split
  · rename_i h; exact hv h
  · show 0 < _; omega
theorem lk_none (last most : Nat) (bs : List UInt8) (a : Nat) (h : (lk last most bs a).2.2 ≠ 0) : (lk last most bs a).1 = 0 ∧ (lk last most bs a).2.1 = 0 := by
  unfold lk at h ⊢
  simp only [] at h ⊢
  split at h
  · exact absurd rfl h
  · rename_i h1; rw [if_neg h1]; exact ⟨rfl, rfl⟩
theorem num_lk (x : RdS) (most : Int) (h : x.e = 0) (ha : x.at_ ≤ x.bs.length) : x.num most = if (lk 8 127 x.bs x.at_).2.2 = 0 then (if most < (lk 8 127 x.bs x.at_).1 then (0, { x with e := 13 }) else (((lk 8 127 x.bs x.at_).1 : Int), { x with at_ := x.at_ + (lk 8 127 x.bs x.at_).2.1 })) else (0, { x with e := (lk 8 127 x.bs x.at_).2.2 }) := by
  have hp := gr_place 9 127 x.bs 9 0 0 x.at_ ha
  unfold RdS.num numOf lk ItS.ended
  simp only [Nat.reduceAdd]
  generalize gr 9 127 x.bs 9 0 0 x.at_ = q at *
  rw [if_pos h]
  by_cases h1 : q.2.2 = 0
  · simp only [h1, if_true, h]
    by_cases h2 : most < (q.1 : Int)
    · simp [h2]
    · simp [h2]; omega
  · simp [h1, h]
theorem signed_lk (x : RdS) (h : x.e = 0) (ha : x.at_ ≤ x.bs.length) : x.signed = if (lk 9 1 x.bs x.at_).2.2 = 0 then (uz (lk 9 1 x.bs x.at_).1, { x with at_ := x.at_ + (lk 9 1 x.bs x.at_).2.1 }) else (0, { x with e := (lk 9 1 x.bs x.at_).2.2 }) := by
  have hp := gr_place 10 1 x.bs 10 0 0 x.at_ ha
  unfold RdS.signed lk ItS.ended
  simp only [Nat.reduceAdd]
  generalize gr 10 1 x.bs 10 0 0 x.at_ = q at *
  rw [if_pos h]
  by_cases h1 : q.2.2 = 0
  · simp only [h1, if_true, h]
    simp; omega
  · simp [h1, h]
theorem some_lk (x : RdS) (most : Int) (h : x.e = 0) (ha : x.at_ ≤ x.bs.length) : x.some most = if (lk 8 127 x.bs x.at_).2.2 = 0 then
      (if most < (lk 8 127 x.bs x.at_).1 then ([], { x with e := 14 }) else if x.bs.length - (x.at_ + (lk 8 127 x.bs x.at_).2.1) < (lk 8 127 x.bs x.at_).1 then ([], { x with e := 10 })
        else ((x.bs.drop (x.at_ + (lk 8 127 x.bs x.at_).2.1)).take (lk 8 127 x.bs x.at_).1, { x with at_ := x.at_ + (lk 8 127 x.bs x.at_).2.1 + (lk 8 127 x.bs x.at_).1 })) else ([], { x with e := (lk 8 127 x.bs x.at_).2.2 }) := by
  have hp := gr_place 9 127 x.bs 9 0 0 x.at_ ha
  unfold RdS.some someOf numOf lk ItS.ended
  simp only [Nat.reduceAdd]
  generalize gr 9 127 x.bs 9 0 0 x.at_ = q at *
  rw [if_pos h]
  by_cases h1 : q.2.2 = 0
  · simp only [h1, if_true, h]
    by_cases h2 : most < (q.1 : Int)
    · simp [h2]
    · have e : x.at_ + (q.2.1 - x.at_) = q.2.1 := by omega
      simp only [if_neg h2, e, if_true]
      by_cases h3 : x.bs.length - q.2.1 < q.1
      · rw [if_pos (show (x.bs.length : Int) - (q.2.1 : Int) < (q.1 : Int) by omega), if_pos h3]
        simp
      · rw [if_neg (show ¬ (x.bs.length : Int) - (q.2.1 : Int) < (q.1 : Int) by omega), if_neg h3]
        simp
  · simp [h1, h]
theorem Turns.and_then {w W W' : World} {O O' O'' : Hp.Own} (t : Turns w W O O') (f : O'.holds W → Turns W W' O' O'') : Turns w W' O O'' := t.trans (f t.now)
theorem uz_i64 (n : Nat) (h : n % 2 = 1) : uz n = -((n / 2 : Nat) : Int) - 1 := by unfold uz; rw [if_neg (by omega)]
section
variable (x : RdS) (w : World) (hs : x.xown.holds w) (hg : x.good)
include hs hg
theorem xnum_any (most : Int) : Calls Try.prog 71 #[.pointer (some ⟨x.g, 0, none⟩), .int .i64 most] w fun q w' => q = .returned (.int .i64 (x.num most).1) ∧ Turns w w' x.xown (x.num most).2.xown := by
  obtain ⟨d0, d1, d2, f1, f2⟩ := xr_cells hs
  have HS := Lib.hid hs
  by_cases h : x.e = 0
  · have HO := Lib.hid (look_any x 8 127 w hs hg.1 hg.2 (by omega) (by omega) (by omega))
    have hbd := lk_bounds 8 127 x.bs x.at_ hg.1
    have hsm := lk_small x.bs x.at_
    rw [num_lk x most h hg.1]
    have hl := hg.2
    generalize lk 8 127 x.bs x.at_ = L at *
    obtain ⟨n, k, e⟩ := L
    simp only [] at HO hbd hsm ⊢
    rw [h] at d2
    have hcv : IntKind.i64.wrap (n : Int) = (n : Int) := IntWalk.i64_in _ (by omega)
    have hw : IntKind.i64.wrap ((x.at_ : Int) + (k : Int)) = ((x.at_ + k : Nat) : Int) := by rw [IntWalk.i64_in _ (by omega)]; omega
    clear hs
    by_cases h1 : e = 0
    · subst h1
      rw [if_pos rfl]
      by_cases h2 : most < (n : Int)
      · rw [if_pos h2]
        have e2 : decide (most < (n : Int)) = true := by simpa using h2
        go_enter Try.func71, Try.ntmps71
        go_wp2_with (go_at_call 82; refine HO.out.mono ?_; rintro q w1 ⟨rfl, m, rfl⟩)
        go_ret
        exact ⟨rfl, ((Turns.refl HS.out).drewN m).trans (xr_setE (by exact ((Turns.refl HS.out).drewN m).now) 13)⟩
      · rw [if_neg h2]
        have e2 : decide (most < (n : Int)) = false := by simpa using h2
        go_enter Try.func71, Try.ntmps71
        go_wp2_with (go_at_call 82; refine HO.out.mono ?_; rintro q w1 ⟨rfl, m, rfl⟩)
        go_ret
        exact ⟨rfl, ((Turns.refl HS.out).drewN m).trans (xr_setAt (by exact ((Turns.refl HS.out).drewN m).now) (x.at_ + k) _ (by simp))⟩
    · rw [if_neg h1]
      have e1 : (e == 0) = false := by simpa using h1
      go_enter Try.func71, Try.ntmps71
      go_wp2_with (go_at_call 82; refine HO.out.mono ?_; rintro q w1 ⟨rfl, m, rfl⟩)
      go_ret
      exact ⟨rfl, ((Turns.refl HS.out).drewN m).trans (xr_setE (by exact ((Turns.refl HS.out).drewN m).now) e)⟩
  · have e1 : (x.e == 0) = false := by simpa using h
    have e2 : (x.e != 0) = true := by simpa using h
    have hF : x.num most = (0, x) := by unfold RdS.num; rw [if_neg h]
    rw [hF]
    clear hs
    go_enter Try.func71, Try.ntmps71
    go_wp2
    go_ret
    exact ⟨rfl, Turns.refl HS.out⟩
theorem xsigned_any : Calls Try.prog 72 #[.pointer (some ⟨x.g, 0, none⟩)] w fun q w' => q = .returned (.int .i64 x.signed.1) ∧ Turns w w' x.xown x.signed.2.xown := by
  obtain ⟨d0, d1, d2, f1, f2⟩ := xr_cells hs
  have HS := Lib.hid hs
  by_cases h : x.e = 0
  · have HO := Lib.hid (look_any x 9 1 w hs hg.1 hg.2 (by omega) (by omega) (by omega))
    have hbd := lk_bounds 9 1 x.bs x.at_ hg.1
    have hsm := lk_wide x.bs x.at_
    rw [signed_lk x h hg.1]
    have hl := hg.2
    generalize lk 9 1 x.bs x.at_ = L at *
    obtain ⟨n, k, e⟩ := L
    simp only [] at HO hbd hsm ⊢
    rw [h] at d2
    have hw : IntKind.i64.wrap ((x.at_ : Int) + (k : Int)) = ((x.at_ + k : Nat) : Int) := by rw [IntWalk.i64_in _ (by omega)]; omega
    clear hs
    by_cases h1 : e = 0
    · subst h1
      rw [if_pos rfl]
      unfold uz
      by_cases h2 : n % 2 = 0
      · rw [if_pos h2]
        have hm : ((n : Int) % 2 == 1) = false := by simp; omega
        have hq : IntKind.i64.wrap ((n : Int) / 2) = ((n / 2 : Nat) : Int) := by rw [IntWalk.i64_in _ (by omega)]; omega
        go_enter Try.func72, Try.ntmps72
        go_wp2_with (go_at_call 82; refine HO.out.mono ?_; rintro q w1 ⟨rfl, m, rfl⟩)
        go_ret
        exact ⟨rfl, ((Turns.refl HS.out).drewN m).trans (xr_setAt (by exact ((Turns.refl HS.out).drewN m).now) (x.at_ + k) _ (by simp))⟩
      · rw [if_neg h2]
        have hm : ((n : Int) % 2 == 1) = true := by simp; omega
        have hq : IntKind.i64.wrap ((n : Int) / 2) = ((n / 2 : Nat) : Int) := by rw [IntWalk.i64_in _ (by omega)]; omega
        have hq2 : IntKind.i64.wrap (-((n / 2 : Nat) : Int)) = -((n / 2 : Nat) : Int) := by rw [IntWalk.i64_in _ (by omega)]
        have hq3 : IntKind.i64.wrap (-((n / 2 : Nat) : Int) - 1) = -((n / 2 : Nat) : Int) - 1 := by rw [IntWalk.i64_in _ (by omega)]
        go_enter Try.func72, Try.ntmps72
        go_wp2_with (go_at_call 82; refine HO.out.mono ?_; rintro q w1 ⟨rfl, m, rfl⟩)
        go_ret
        exact ⟨rfl, ((Turns.refl HS.out).drewN m).trans (xr_setAt (by exact ((Turns.refl HS.out).drewN m).now) (x.at_ + k) _ (by simp))⟩
    · rw [if_neg h1]
      have e1 : (e == 0) = false := by simpa using h1
      go_enter Try.func72, Try.ntmps72
      go_wp2_with (go_at_call 82; refine HO.out.mono ?_; rintro q w1 ⟨rfl, m, rfl⟩)
      go_ret
      exact ⟨rfl, ((Turns.refl HS.out).drewN m).trans (xr_setE (by exact ((Turns.refl HS.out).drewN m).now) e)⟩
  · have e1 : (x.e == 0) = false := by simpa using h
    have e2 : (x.e != 0) = true := by simpa using h
    have hF : x.signed = (0, x) := by unfold RdS.signed; rw [if_neg h]
    rw [hF]
    clear hs
    go_enter Try.func72, Try.ntmps72
    go_wp2
    go_ret
    exact ⟨rfl, Turns.refl HS.out⟩
omit hg in
theorem xbool_any (hg : x.good) : Calls Try.prog 74 #[.pointer (some ⟨x.g, 0, none⟩)] w fun q w' => q = .returned (.bool x.bool.1) ∧ Turns w w' x.xown x.bool.2.xown := by
  obtain ⟨g, v, bs, a, e⟩ := x
  obtain ⟨d0, d1, d2, f1, f2⟩ := xr_cells hs
  have HS := Lib.hid hs
  obtain ⟨A, c, hv⟩ := xr_form hs
  simp only [] at d0 d1 d2 f1 f2 hv
  subst hv
  by_cases h : e = 0
  · subst h
    obtain ⟨m, hm⟩ : ∃ m, bs.length = m := ⟨_, rfl⟩
    have hl := hg.2
    simp only [] at hl
    rw [hm] at hl
    rw [hm] at d0
    by_cases ha : a < bs.length
    · obtain ⟨gv, c', hvv, hcell, hlc⟩ := xr_byte hs a ha
      simp only [] at hvv hcell hlc
      obtain ⟨rfl, rfl⟩ : A = Option.some ⟨gv, 0, none⟩ ∧ c = c' := by simpa using hvv
      obtain ⟨z, hz⟩ : ∃ z, bs[a].toNat = z := ⟨_, rfl⟩
      rw [show bv bs[a] = .int .u8 z by rw [← hz]; rfl] at hcell
      have hG : boolOf bs a = if 1 < z then (false, a + 1, 12) else (decide (z = 1), a + 1, 0) := by rw [boolOf, dif_pos ha, hz]
      have hb : ∀ v, (RdS.mk g v bs a 0).bool = if 1 < z then (false, RdS.mk g v bs a 12) else (decide (z = 1), RdS.mk g v bs (a + 1) 0) := by
        intro v
        unfold RdS.bool ItS.ended
        simp only [if_true, hG]
        by_cases h1 : 1 < z <;> simp [h1]
      rw [hb]
      have e1 : decide ((m : Int) ≤ (a : Int)) = false := by simp; omega
      have e1' : decide (m ≤ a) = false := by simp; omega
      have e2 : decide ((a : Int) < (m : Int)) = true := by simp; omega
      have e2' : decide (a < m) = true := by simp; omega
      have ham : a < m := by omega
      have HM := Lib.hid hm
      have HAL := Lib.hid ha
      have HZ : Hid (bv bs[a] = .int .u8 z) := Lib.hid (by rw [← hz]; rfl)
      clear hs hG hb hz hvv hlc hm ha
      by_cases h1 : 1 < z
      · rw [if_pos h1]
        have e3 : decide (1 < (z : Int)) = true := by simp; omega
        have e3' : decide (1 < z) = true := by simp; omega
        go_enter Try.func74, Try.ntmps74
        go_wp2_with fail
        go_quiet (fail)
        go_wp2_with fail
        go_quiet (fail)
        go_wp2_with fail
        go_ret
        refine ⟨rfl, Turns.and_then ?_ fun h => xr_setE (s := RdS.mk g _ bs a 0) h 12⟩
        exact (Turns.refl HS.out).drewN _
      · rw [if_neg h1]
        have e3 : decide (1 < (z : Int)) = false := by simp; omega
        have e3' : decide (1 < z) = false := by simp; omega
        have hw : IntKind.i64.wrap ((a : Int) + 1) = ((a + 1 : Nat) : Int) := by rw [IntWalk.i64_in _ (by omega)]; omega
        go_enter Try.func74, Try.ntmps74
        go_wp2_with fail
        go_quiet (fail)
        go_wp2_with fail
        go_quiet (fail)
        go_wp2_with fail
        generalize hW : World.setCell _ (⟨g, 1, none⟩ : Addr) _ = W
        have HT : Hid (Turns w W (RdS.mk g (.slice (Option.some ⟨gv, 0, none⟩) bs.length c) bs a 0).xown (RdS.mk g (.slice (Option.some ⟨gv, 0, none⟩) bs.length c) bs (a + 1) 0).xown) := Lib.hid <| by
          rw [← hW]
          exact Turns.and_then ((Turns.refl HS.out).drewN _) fun h => xr_setAt (s := RdS.mk g _ bs a 0) h (a + 1) _ (by simp)
        clear hW d0 d1 d2 f1 f2 hcell
        obtain ⟨d0, d1, d2, f1, f2⟩ := xr_cells HT.out.now
        obtain ⟨gv', c', hvv, hcell, hlc⟩ := xr_byte HT.out.now a HAL.out
        simp only [] at d0 d1 d2 hvv hcell hlc
        obtain ⟨rfl, rfl⟩ : gv = gv' ∧ c = c' := by simpa using hvv
        have hcell2 : W.cell? ⟨gv, a, none⟩ = Option.some (.int .u8 z) := hcell.trans (congrArg Option.some HZ.out)
        clear hcell
        rw [HM.out] at d0
        rw [show (((a + 1 : Nat)) : Int) = (a : Int) + 1 by simp] at d1
        have hw2 : IntKind.i64.wrap ((a : Int) + 1 - 1) = (a : Int) := by rw [IntWalk.i64_in _ (by omega)]; omega
        clear hvv hlc
        go_quiet (fail)
        go_wp2_with fail
        go_ret
        refine ⟨?_, HT.out.drewN _⟩
        have hz1 : ((z : Int) == 1) = decide (z = 1) := by
          by_cases h : z = 1
          · simp [h]
          · have : ¬ (z : Int) = 1 := by omega
            simp [h, this]
        rw [← hz1]
        rfl
    · have hb : ∀ v, (RdS.mk g v bs a 0).bool = (false, RdS.mk g v bs a 10) := by
        intro v
        unfold RdS.bool ItS.ended
        simp only [if_true]
        rw [boolOf, dif_neg ha]
        simp
      rw [hb]
      have e1 : decide ((m : Int) ≤ (a : Int)) = true := by simp; omega
      have e1' : decide (m ≤ a) = true := by simp; omega
      have ham : ¬ a < m := by omega
      clear hs hb hm ha
      go_enter Try.func74, Try.ntmps74
      go_wp2_with fail
      go_quiet (fail)
      go_wp2_with fail
      go_ret
      refine ⟨rfl, Turns.and_then ?_ fun h => xr_setE (s := RdS.mk g _ bs a 0) h 10⟩
      exact (Turns.refl HS.out).drewN _
  · have e1 : (e == 0) = false := by simpa using h
    have e2 : (e != 0) = true := by simpa using h
    have hF : ∀ v, (RdS.mk g v bs a e).bool = (false, RdS.mk g v bs a e) := by intro v; unfold RdS.bool; rw [if_neg h]
    rw [hF]
    clear hs
    go_enter Try.func74, Try.ntmps74
    go_wp2
    go_ret
    exact ⟨rfl, Turns.refl HS.out⟩
omit hg in
theorem xfail_any (c : Int) : Calls Try.prog 78 #[.pointer (some ⟨x.g, 0, none⟩), .int .i64 c] w fun q w' => q = .returned (.tuple #[]) ∧ Turns w w' x.xown (if x.e = 0 then { x with e := c } else x : RdS).xown := by
  obtain ⟨d0, d1, d2, g1, g2⟩ := xr_cells hs
  have HS := Lib.hid hs
  clear hs
  by_cases h : x.e = 0
  · rw [if_pos h]
    rw [h] at d2
    go_enter Try.func78, Try.ntmps78
    go_wp2
    go_end0
    exact ⟨rfl, xr_setE HS.out c⟩
  · rw [if_neg h]
    have hd : (x.e == 0) = false := by simpa using h
    go_enter Try.func78, Try.ntmps78
    go_wp2
    go_end0
    exact ⟨rfl, Turns.refl HS.out⟩
omit hg in
theorem xerr_any : Calls Try.prog 30 #[.pointer (some ⟨x.g, 0, none⟩)] w fun q w' => q = .returned (.tuple #[.int .i64 x.e, .int .i64 x.at_]) ∧ ∃ n, w.drewN n = w' := by
  obtain ⟨d0, d1, d2, g1, g2⟩ := xr_cells hs
  clear hs
  go_enter Try.func30, Try.ntmps30
  go_wp2
  go_quiet (fail)
  go_wp2
  go_ret2
  exact ⟨rfl, _, rfl⟩
omit hg in
theorem xclose_any : Calls Try.prog 79 #[.pointer (some ⟨x.g, 0, none⟩)] w fun q w' => q = .returned (.int .i64 x.closed.e) ∧ Turns w w' x.xown x.closed.xown := by
  obtain ⟨d0, d1, d2, g1, g2⟩ := xr_cells hs
  obtain ⟨A, c, hf⟩ := xr_form hs
  rw [hf] at d0
  have HS := Lib.hid hs
  unfold RdS.closed
  clear hs
  by_cases h : x.e = 0
  · rw [h] at d2
    by_cases h1 : x.at_ < x.bs.length
    · rw [if_pos h1, if_pos h]
      have hd : decide ((x.at_ : Int) < (x.bs.length : Int)) = true := by simp; omega
      have hd' : decide (x.at_ < x.bs.length) = true := by simpa using h1
      go_enter Try.func79, Try.ntmps79
      go_wp2
      go_quiet (fail)
      go_wp2
      go_ret
      refine ⟨rfl, Turns.and_then ?_ fun h => xr_setE h 15⟩
      exact (Turns.refl HS.out).drewN _
    · rw [if_neg h1]
      have hd : decide ((x.at_ : Int) < (x.bs.length : Int)) = false := by simp; omega
      have hd' : decide (x.at_ < x.bs.length) = false := by simpa using h1
      go_enter Try.func79, Try.ntmps79
      go_wp2
      go_quiet (fail)
      go_wp2
      go_ret
      rw [h]
      exact ⟨rfl, (Turns.refl HS.out).drewN _⟩
  · have e1 : (x.e == 0) = false := by simpa using h
    have hF : (if x.at_ < x.bs.length then (if x.e = 0 then { x with e := 15 } else x) else x : RdS) = x := by rw [if_neg h]; split <;> rfl
    rw [hF]
    go_enter Try.func79, Try.ntmps79
    go_wp2
    go_quiet (fail)
    go_wp2
    go_ret
    exact ⟨rfl, (Turns.refl HS.out).drewN _⟩
end
end Go.Proofs.Ytkpgdonpmfebaaa.Bt
