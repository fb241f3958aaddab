/- The law's desk: stands. -/
import Derived.Test.YtpaaghbmlenlfaaOlSr
namespace Go.Proofs.Ytpaaghbmlenlfaa.Ol
open Go.Hp.M7
open Go.RowKit Go.Hp
attribute [local go_sem] min2_lean min_two max2_lean max_two
set_option linter.unusedSimpArgs false
set_option linter.unusedVariables false
set_option maxRecDepth 100000
theorem aFr_all {A : Ab} (h : A.2.length ≤ 64) : aFr A (A.1 + 1) 64 = A.2 := by
  unfold aFr
  by_cases hh : hasA A (A.1 + 1)
  · rw [if_pos hh, show (A.1 + 1 - A.1 - 1).toNat = 0 by omega, List.drop_zero]
    exact List.take_of_length_le (by simpa using h)
  · rw [if_neg hh]
    unfold hasA at hh
    have : A.2.length = 0 := by omega
    exact (List.eq_nil_of_length_eq_zero this).symm
set_option maxHeartbeats 4000000 in
theorem stands_any (m g f : Nat) (k : KM) (d : DK) (w : World) (h : (dO m g f k d).holds w) (ho : DK.Ok m d) (hk : k.Wf f k.M) (hy : Oky k) (hN : k.M ≤ 8796093022200) :
    Calls Try.prog 42 #[.pointer (some ⟨g, 0, none⟩)] w fun e w' => e = .returned (.bool true) ∧ ∃ k', k'.Wf f k'.M ∧ Oky k' ∧ k'.M ≤ k.M + 4 ∧ Turns w w' (dO m g f k d) (dO m g f k' d) := by
  have hn4 := ho.n4
  have hn1 := ho.n1
  have HO := Lib.hid ho
  obtain ⟨n, hn⟩ : ∃ n, d.n = n := ⟨_, rfl⟩
  obtain ⟨ba, ca, bb, cb, hav, hbv, -⟩ := dO_see h (j := 0) (by omega)
  have H0 := Lib.hid (Turns.refl h)
  have HAV := Lib.hid hav
  have HBV := Lib.hid hbv
  have HNN := Lib.hid hn
  have HJ : Hid (0 < d.n) := Lib.hid (by omega)
  rw [hn] at hn4 hn1
  have a0 := (dO_at H0.out.now HJ.out HAV.out HBV.out HNN.out).1
  have HK0 := Lib.hid hk
  have HY0 := Lib.hid hy
  obtain ⟨M, hM⟩ : ∃ M, k.M = M := ⟨_, rfl⟩
  rw [hM] at hN ⊢
  have HM := Lib.hid hM
  clear h ho hk hy hav hbv hn HJ hM
  go_enter Try.func42, Try.ntmps42
  go_wp2_with fail
  go_loopw [11] (fun x11 wr => ∃ (i : Nat) (k1 : KM), x11 = .int .i64 i ∧ i ≤ n ∧ k1.M = M + i ∧ k1.Wf f k1.M ∧ Oky k1 ∧ Turns w wr (dO m g f k d) (dO m g f k1 d)) (fun x11 _ => n - (intOf x11).toNat)
  case atStart => exact ⟨0, k, rfl, Nat.zero_le _, HM.out, by rw [HM.out]; exact (HM.out ▸ HK0.out), HY0.out, H0.out⟩
  case round =>
    clear a0
    obtain ⟨i, k1, rfl, hi, hm1, hwf, hok, ht⟩ := hrel
    have HK := Lib.hid hwf
    have HY := Lib.hid hok
    have H2 := Lib.hid ht
    have HM1 := Lib.hid hm1
    clear hwf hok ht hm1
    by_cases hlt : i < n
    · have hd : decide ((i : Int) < (n : Int)) = true := by simp; omega
      have hd' : decide (i < n) = true := by simp; omega
      have HJ := Lib.hid (show i < d.n by rw [HNN.out]; exact hlt)
      have HOK := Lib.hid (HO.out.ok i HJ.out)
      have HRE := Lib.hid (HO.out.rel i HJ.out)
      have hl64 : (d.l i).2.length ≤ 64 := by have := HOK.out.len; have := HOK.out.m64; omega
      have lb0 := HOK.out.b0
      have lb1 := HOK.out.b1
      have hw1 : IntKind.i64.wrap ((d.l i).1 + 1) = (d.l i).1 + 1 := IntWalk.i64_in _ (by omega)
      obtain ⟨Av, cv, hvr⟩ := rO_slice (dO_ref H2.out.now HJ.out)
      rw [← HRE.out] at hvr
      obtain ⟨s, hs⟩ : ∃ s, (d.l i).2.length = s := ⟨_, rfl⟩
      have HSL := Lib.hid hs
      rw [hs] at hvr hl64 lb1
      have HVR := Lib.hid hvr
      have HCQ : Hid (∀ (k' : KM) W, (dO m g f k' d).holds W → W.cell? ⟨d.gr i, 1, none⟩ = some (.int .i64 (d.l i).1) ∧ W.cell? ⟨d.gr i, 2, none⟩ = some (.slice Av s cv)) := Lib.hid (fun k' W hW => by
        obtain ⟨-, a1, a2⟩ := rO_cells (dO_ref hW HJ.out)
        rw [HVR.out] at a2
        rw [HRE.out]
        exact ⟨a1, a2⟩)
      have HFR := Lib.hid (fun W hW => pFrom2 (d.ga i) (d.mb i) m (d.l i) ((d.l i).1 + 1) 64 W hW)
      rw [aFr_all (by rw [hs]; exact hl64)] at HFR
      have HQR : Hid (∀ W, (dO m g f k1 d).holds W → (qO (d.gr i) m (d.vr i) (d.l i)).holds W) := Lib.hid (fun W hW => by rw [HRE.out]; exact dO_ref hW HJ.out)
      obtain ⟨y1, y2⟩ := HCQ.out _ _ H2.out.now
      clear hvr hs
      have q := dO_at H2.out.now HJ.out HAV.out HBV.out HNN.out; have x0 : wr.cell? ⟨g, 0, none⟩ = some (.slice (some ⟨ba, 0, none⟩) n ca) := q.1; have x1 : wr.cell? ⟨g, 1, none⟩ = some (.slice (some ⟨bb, 0, none⟩) n cb) := q.2.1; have x2 : wr.cell? ⟨ba, i, none⟩ = some (Ptr (d.ga i)) := q.2.2.1; have x3 : wr.cell? ⟨bb, i, none⟩ = some (Ptr (d.gr i)) := q.2.2.2.1; clear q
      go_wp2_with (first
        | (go_at_call 51; (with_reducible refine (HFR.out _ (by exact dO_tb H2.out.now HJ.out)).mono ?_); rintro r w4 ⟨V4, n4, hn4', rfl, t4⟩; rw [HSL.out] at hn4'; subst hn4'; obtain ⟨A4, c4, rfl⟩ := row_slice t4.now; have HT4 := Lib.hid (H2.out.pushT t4); clear t4; have HB4 := Lib.hid (dO_rowbk HT4.out.now))
        | (go_at_call 52; (with_reducible refine (keep_any g d.av d.bv f k1 A4 _ c4 _ _ HB4.out (gd_flat _) (HK.out.no (Nat.le_refl _)) (by omega) (by have := HM1.out; omega)).mono ?_); rintro r w5 ⟨rfl, ov, wv, y, t5⟩; have HT5 := Lib.hid (HT4.out.trans (dO_keep HT4.out.now t5)); clear t5; have q5 := dO_at HT5.out.now HJ.out HAV.out HBV.out HNN.out; have x05 : w5.cell? ⟨g, 0, none⟩ = some (.slice (some ⟨ba, 0, none⟩) n ca) := q5.1; have x15 : w5.cell? ⟨g, 1, none⟩ = some (.slice (some ⟨bb, 0, none⟩) n cb) := q5.2.1; have x25 : w5.cell? ⟨ba, i, none⟩ = some (Ptr (d.ga i)) := q5.2.2.1; have x35 : w5.cell? ⟨bb, i, none⟩ = some (Ptr (d.gr i)) := q5.2.2.2.1; clear q5)
        | (go_at_call 40; (with_reducible refine (alike_any (d.ga i) (d.mb i) (d.gr i) m (d.vr i) (d.l i) _ (by exact dO_tb HT5.out.now HJ.out) (by rw [HRE.out]; exact dO_ref HT5.out.now HJ.out)).mono ?_); rintro r w6 ⟨rfl, hc6⟩; have HT6 := Lib.hid (HT5.out.kept hc6); clear hc6; have q6 := dO_at HT6.out.now HJ.out HAV.out HBV.out HNN.out; have x06 : w6.cell? ⟨g, 0, none⟩ = some (.slice (some ⟨ba, 0, none⟩) n ca) := q6.1; have x16 : w6.cell? ⟨g, 1, none⟩ = some (.slice (some ⟨bb, 0, none⟩) n cb) := q6.2.1; have x26 : w6.cell? ⟨ba, i, none⟩ = some (Ptr (d.ga i)) := q6.2.2.1; have x36 : w6.cell? ⟨bb, i, none⟩ = some (Ptr (d.gr i)) := q6.2.2.2.1; clear q6; obtain ⟨y16, y26⟩ := HCQ.out _ _ HT6.out.now; have HE6 := Lib.hid (add_ens HT6.out.now HK.out).1; have HE7 : Hid (EnS w6 Av (d.l i).2) := Lib.hid (by (have h := (dO_ref HT6.out.now HJ.out).2.1); (rw [HVR.out, ← HRE.out, HSL.out] at h); exact EnS.of_row (c := cv) (l := (d.l i).2) (by rw [HSL.out]; exact h)))
        | (go_at_call 53; (with_reducible refine (same_any A4 Av _ c4 cv (d.l i).2 _ HE6.out HE7.out HSL.out (by omega)).mono ?_); rintro r w7 ⟨rfl, hc7⟩; have HT7 := Lib.hid (HT6.out.kept hc7); clear hc7))
      go_roundw
      case rel => exact ⟨i + 1, _, by simp, by omega, by show k1.M + 1 = _; have := HM1.out; omega, HK.out.add _ _ _ _ _ _, HY.out.add _ _ _ _ (gd_flat _) (by omega), HT7.out⟩
      case measure => simp [intOf]; omega
    · have hd : decide ((i : Int) < (n : Int)) = false := by simp; omega
      have hd' : decide (i < n) = false := by simp; omega
      go_wp2_with fail
      go_ret
      exact ⟨rfl, k1, HK.out, HY.out, by have := HM1.out; omega, H2.out⟩
end Go.Proofs.Ytpaaghbmlenlfaa.Ol
