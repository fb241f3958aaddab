/- The law's desk: stands. -/
import Derived.Test.YtmpkjfengfgagaaTmKS
namespace Go.Proofs.Ytmpkjfengfgagaa.Ts
open Go.RowKit Go.Hp
attribute [local go_sem] min2_lean min_two max2_lean max_two
set_option linter.unusedSimpArgs false
set_option linter.unusedVariables false
set_option maxRecDepth 100000
open Tf
set_option maxHeartbeats 4000000 in
theorem stands_any (g f : Nat) (k : KT) (d : DK) (w : World) (h : (dO g f k d).holds w) (ho : d.Ok) (hk : k.Wf f k.M) (hy : Oky k) (hN : k.M ≤ 8796093022200) :
    Calls Try.prog 48 #[.pointer (some ⟨g, 0, none⟩)] w fun e w' => e = .returned (.bool true) ∧ ∃ k', k'.Wf f k'.M ∧ Oky k' ∧ k'.M ≤ k.M + 4 ∧ Turns w w' (dO g f k d) (dO g f k' d) := by
  have hn4 := ho.n4
  have hn1 := ho.n1
  have HO := Lib.hid ho
  obtain ⟨n, hn⟩ : ∃ n, d.n = n := ⟨_, rfl⟩
  obtain ⟨ba, ca, bb, cb, hav, hbv, -⟩ := dO_see h (j := 0) (by omega)
  have H0 := Lib.hid (Turns.refl h)
  have HAV := Lib.hid hav
  have HBV := Lib.hid hbv
  have HN := Lib.hid hn
  have HJ : Hid (0 < d.n) := Lib.hid (by omega)
  rw [hn] at hn4 hn1
  have a0 := (dO_at H0.out.now HJ.out HAV.out HBV.out HN.out).1
  have HK0 := Lib.hid hk
  have HY0 := Lib.hid hy
  obtain ⟨M, hM⟩ : ∃ M, k.M = M := ⟨_, rfl⟩
  rw [hM] at hN ⊢
  have HM := Lib.hid hM
  clear h ho hk hy hav hbv hn HJ hM
  go_enter Try.func48, Try.ntmps48
  go_wp2_with fail
  go_loopw [14] (fun x14 wr => ∃ (i : Nat) (k1 : KT), x14 = .int .i64 i ∧ i ≤ n ∧ k1.M = M + i ∧ k1.Wf f k1.M ∧ Oky k1 ∧ Turns w wr (dO g f k d) (dO g f k1 d)) (fun x14 _ => n - (intOf x14).toNat)
  case atStart => exact ⟨0, k, rfl, Nat.zero_le _, HM.out, by rw [HM.out]; exact (HM.out ▸ HK0.out), HY0.out, H0.out⟩
  case round =>
    clear a0
    obtain ⟨i, k1, rfl, hi, hm1, hwf, hok, ht⟩ := hrel
    have HK := Lib.hid hwf
    have HY := Lib.hid hok
    have H2 := Lib.hid ht
    have HM1 := Lib.hid hm1
    clear hwf hok ht hm1
    by_cases hlt : i < n
    · have hd : decide ((i : Int) < (n : Int)) = true := by simp; omega
      have hd' : decide (i < n) = true := by simp; omega
      have HJ := Lib.hid (show i < d.n by rw [HN.out]; exact hlt)
      have HQ := Lib.hid (HO.out.ok i HJ.out)
      have HR := Lib.hid (HO.out.rel i HJ.out)
      have HQ1 := Lib.hid HQ.out.1
      have hll := HQ.out.2.1
      have hrl := (HR.out.rng HQ.out).1
      have q := dO_at H2.out.now HJ.out HAV.out HBV.out HN.out; have a0 : wr.cell? ⟨g, 0, none⟩ = some (.slice (some ⟨ba, 0, none⟩) n ca) := q.1; have b0 : wr.cell? ⟨g, 1, none⟩ = some (.slice (some ⟨bb, 0, none⟩) n cb) := q.2.1; have aj : wr.cell? ⟨ba, i, none⟩ = some (Ptr (d.ga i)) := q.2.2.1; have bj : wr.cell? ⟨bb, i, none⟩ = some (Ptr (d.gr i)) := q.2.2.2.1; clear q
      go_wp2_with (first
        | (go_at_call 96; (with_reducible refine (armed_any (d.ga i) (d.mb i) (d.l i) _ (dO_tb H2.out.now HJ.out) (HO.out.key i HJ.out) (by omega)).mono ?_); rintro r w4 ⟨A4, c4, rfl, ht4⟩; rw [HR.out.armed HQ.out.1] at ht4; obtain ⟨m, hm⟩ : ∃ m, (d.l i).length = m := ⟨_, rfl⟩; rw [hm] at ht4 hll; simp only [hm]; clear hm; have HT4 := Lib.hid (H2.out.trans (dO_tout H2.out.now HJ.out (l' := d.l i) ht4)); rw [setT_self] at HT4; clear ht4; have q4 := dO_at HT4.out.n1 HJ.out HAV.out HBV.out HN.out; have a04 : w4.cell? ⟨g, 0, none⟩ = some (.slice (some ⟨ba, 0, none⟩) n ca) := q4.1; have b04 : w4.cell? ⟨g, 1, none⟩ = some (.slice (some ⟨bb, 0, none⟩) n cb) := q4.2.1; have aj4 : w4.cell? ⟨ba, i, none⟩ = some (Ptr (d.ga i)) := q4.2.2.1; have bj4 : w4.cell? ⟨bb, i, none⟩ = some (Ptr (d.gr i)) := q4.2.2.2.1; clear q4; have h9 := dO_rowbk HT4.out.now; have HB4 : Hid ((Hp.Own.both (Hp.Own.row 9 1 (.slice A4 m c4) m ((List.map une _).map encStr)) (bO 104 g d.av d.bv f k1)).holds w4) := Lib.hid h9; clear h9)
        | (go_at_call 92; (with_reducible refine (keep_any 104 g d.av d.bv f k1 A4 m c4 _ _ HB4.out (gd_map _) (HK.out.no (Nat.le_refl _)) (by omega) (by have := HM1.out; omega)).mono ?_); rintro r w5 ⟨rfl, ov, wv, y, ht5⟩; have HT5 := Lib.hid (HT4.out.trans (dO_keep HT4.out.now ht5)); clear ht5; have q5 := dO_at HT5.out.now HJ.out HAV.out HBV.out HN.out; have a05 : w5.cell? ⟨g, 0, none⟩ = some (.slice (some ⟨ba, 0, none⟩) n ca) := q5.1; have b05 : w5.cell? ⟨g, 1, none⟩ = some (.slice (some ⟨bb, 0, none⟩) n cb) := q5.2.1; have aj5 : w5.cell? ⟨ba, i, none⟩ = some (Ptr (d.ga i)) := q5.2.2.1; have bj5 : w5.cell? ⟨bb, i, none⟩ = some (Ptr (d.gr i)) := q5.2.2.2.1; clear q5)
        | (go_at_call 63; (with_reducible refine (Tf.armed_any (d.gr i) (d.vr i) (d.r i) _ (dO_ref HT5.out.now HJ.out) (by omega)).mono ?_); rintro r w6 ⟨vt, rfl, ht6⟩; rw [← nms_len] at ht6; obtain ⟨A6, c6, rfl⟩ := row_slice ht6.now; have HT6 := Lib.hid (HT5.out.pushT ht6); clear ht6)
        | (go_at_call 93; (with_reducible refine (agree_any A4 m c4 A6 c6 (nms (d.r i)) _ (add_src HT6.out.n1 HK.out) HT6.out.n0 (by omega)).mono ?_); rintro r w7 ⟨rfl, hc7⟩; have HT7 := Lib.hid ((HT6.out.kept hc7).dropL); clear hc7; have q7 := dO_at HT7.out.now HJ.out HAV.out HBV.out HN.out; have a07 : w7.cell? ⟨g, 0, none⟩ = some (.slice (some ⟨ba, 0, none⟩) n ca) := q7.1; have b07 : w7.cell? ⟨g, 1, none⟩ = some (.slice (some ⟨bb, 0, none⟩) n cb) := q7.2.1; have aj7 : w7.cell? ⟨ba, i, none⟩ = some (Ptr (d.ga i)) := q7.2.2.1; have bj7 : w7.cell? ⟨bb, i, none⟩ = some (Ptr (d.gr i)) := q7.2.2.2.1; clear q7; obtain ⟨Av, cv, hv⟩ := row_slice (rO_row (dO_ref HT7.out.now HJ.out)); have HV := Lib.hid hv; have v0 := (rO_cell (dO_ref HT7.out.now HJ.out)).1; rw [hv] at v0; clear hv; obtain ⟨s, hs⟩ : ∃ s, (d.r i).length = s := ⟨_, rfl⟩; rw [hs] at hrl v0 HV; have HS := Lib.hid hs; clear hs))
      have HK2 : Hid ((k1.add ov wv (.slice A4 m c4) y m (List.map encStr (List.map une (nms (d.r i))))).Wf f (k1.add ov wv (.slice A4 m c4) y m (List.map encStr (List.map une (nms (d.r i))))).M) := Lib.hid (HK.out.add _ _ _ _ _ _)
      have HY2 : Hid (Oky (k1.add ov wv (.slice A4 m c4) y m (List.map encStr (List.map une (nms (d.r i)))))) := Lib.hid (HY.out.add _ _ _ _ (gd_map _) (by omega))
      have HM2 : Hid ((k1.add ov wv (.slice A4 m c4) y m (List.map encStr (List.map une (nms (d.r i))))).M = M + (i + 1)) := Lib.hid (by show k1.M + 1 = _; rw [HM1.out]; omega)
      generalize k1.add ov wv (.slice A4 m c4) y m (List.map encStr (List.map une (nms (d.r i)))) = k2 at HT7 HK2 HY2 HM2
      go_loopw [52] (fun x52 wr => ∃ p : Nat, x52 = .int .i64 p ∧ p ≤ s ∧ Turns w wr (dO g f k d) (dO g f k2 d)) (fun x52 _ => s - (intOf x52).toNat)
      case atStart => exact ⟨0, rfl, Nat.zero_le _, HT7.out⟩
      case round =>
        obtain ⟨p, rfl, hp, ht⟩ := hrel
        have H3 := Lib.hid ht
        clear ht v0 a0 b0 aj bj a04 b04 aj4 bj4 a05 b05 aj5 bj5 a07 b07 aj7 bj7 HT4 HT5 HT6 HT7 HB4
        by_cases hlp : p < s
        · have hd2 : decide ((p : Int) < (s : Int)) = true := by simp; omega
          have hd3 : decide (p < s) = true := by simp; omega
          obtain ⟨x, hx⟩ : ∃ x, (d.r i)[p]? = some x := ⟨_, List.getElem?_eq_getElem (by have := HS.out; omega)⟩
          have hr3 := dO_ref H3.out.now HJ.out
          rw [HV.out] at hr3
          obtain ⟨bx, rfl, hbx, hbg, c0, c1, c2, c2f⟩ := rO_at hr3 hx
          obtain ⟨kk, hkk⟩ := HR.out.nm x (List.mem_of_getElem? hx)
          obtain ⟨⟨s', m'⟩, q⟩ := x
          have hkk : (s', m') = (kk, 0) := hkk
          injection hkk with e1 e2
          subst e1 e2
          have HG : Hid (mget (d.l i) s' = some q) := Lib.hid ((mget_iff HQ1.out).2 ((HR.out.mem s' q).1 (List.mem_of_getElem? hx)))
          have HA := Lib.hid (H3.out.push #[encStr s', .int .i64 0, .int .i64 q] 178)
          clear hr3 hx
          go_wp2_with fail
          obtain ⟨W3, hW3⟩ : ∃ W, W = wr.alloc (.cells #[encStr s', .int .i64 0, .int .i64 q] 178) := ⟨_, rfl⟩
          obtain ⟨tb, htb⟩ : ∃ b, b = wr.heap.size := ⟨_, rfl⟩
          rw [← hW3, ← htb] at HA
          rw [← htb]
          first
            | rw [← hW3]
            | (have hW4 : W3 = wr.alloc (.cells #[.string ⟨s'.toArray⟩, .int .i64 0, .int .i64 q] 178) := hW3; rw [← hW4]; clear hW4)
          clear hW3 htb c0 c1 c2 c2f hbx
          have q := dO_at HA.out.n1 HJ.out HAV.out HBV.out HN.out; have a0 : W3.cell? ⟨g, 0, none⟩ = some (.slice (some ⟨ba, 0, none⟩) n ca) := q.1; have b0 : W3.cell? ⟨g, 1, none⟩ = some (.slice (some ⟨bb, 0, none⟩) n cb) := q.2.1; have aj : W3.cell? ⟨ba, i, none⟩ = some (Ptr (d.ga i)) := q.2.2.1; have bj : W3.cell? ⟨bb, i, none⟩ = some (Ptr (d.gr i)) := q.2.2.2.1; clear q
          have z0 : W3.cell? ⟨tb, 0, none⟩ = some (encStr s') := HA.out.b0.cell 0
          have z2 : W3.cell? ⟨tb, 2, none⟩ = some (.int .i64 q) := HA.out.b0.cell 2
          have hqq : (q != q) = false := by simp
          go_region_held3 (fun w' => w'.cell? ⟨g, 0, none⟩ = some (.slice (some ⟨ba, 0, none⟩) n ca) ∧ w'.cell? ⟨ba, i, none⟩ = some (Ptr (d.ga i)) ∧ w'.cell? ⟨tb, 0, none⟩ = some (encStr s')) (go_keep)
            (first
              | (go_at_call 38; (with_reducible refine (left_any (d.ga i) (d.mb i) (d.l i) s' _ (dO_tb HA.out.drew.n1 HJ.out)).mono ?_); rintro r w8 ⟨rfl, rfl⟩; rw [HG.out]))
          have HB := Lib.hid HA.out.drew
          have z2' : W3.drew.cell? ⟨tb, 2, none⟩ = some (.int .i64 q) := HB.out.b0.cell 2
          go_wp2_with fail
          go_roundw
          case rel => exact ⟨p + 1, by simp, by omega, HB.out.dropL⟩
          case measure => simp [intOf]; omega
        · have hd2 : decide ((p : Int) < (s : Int)) = false := by simp; omega
          have hd3 : decide (p < s) = false := by simp; omega
          go_wp2_with fail
          go_roundw
          case rel => exact ⟨i + 1, k2, by simp, by omega, HM2.out, HK2.out, HY2.out, H3.out⟩
          case measure => simp [intOf]; omega
    · have hd : decide ((i : Int) < (n : Int)) = false := by simp; omega
      have hd' : decide (i < n) = false := by simp; omega
      go_wp2_with fail
      go_ret
      exact ⟨rfl, k1, HK.out, HY.out, by have := HM1.out; omega, H2.out⟩
end Go.Proofs.Ytmpkjfengfgagaa.Ts
