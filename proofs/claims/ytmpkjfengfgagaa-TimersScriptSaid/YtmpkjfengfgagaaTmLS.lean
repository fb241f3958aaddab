/- The law's desk: act. -/
import Derived.Test.YtmpkjfengfgagaaTmKS
namespace Go.Proofs.Ytmpkjfengfgagaa.Ts
open Go.RowKit Go.Hp
attribute [local go_sem] min2_lean min_two max2_lean max_two
set_option linter.unusedSimpArgs false
set_option linter.unusedVariables false
set_option maxRecDepth 100000
open Tf
def actP (g f : Nat) (k : KT) (d : DK) (w : World) (e : Ending) (w' : World) : Prop := e = .returned (.bool true) ∧ ∃ f' k' d', d'.Ok ∧ k'.Wf f' k'.M ∧ Oky k' ∧ 2 * k'.M - f' ≤ 2 * k.M - f + 2 ∧ Turns w w' (dO g f k d) (dO g f' k' d')
set_option maxHeartbeats 4000000 in
theorem act_any (g f : Nat) (k : KT) (d : DK) (kd at_ num tk : Int) (nm : List UInt8) (w : World) (h : (dO g f k d).holds w) (ho : d.Ok) (hk : k.Wf f k.M) (hy : Oky k) (hN : 2 * k.M - f ≤ 8796093022200) (hnm : nm.length ≤ maxLen) :
    Calls Try.prog 46 #[.pointer (some ⟨g, 0, none⟩), .agg #[.int .i64 kd, .int .i64 at_, encStr nm, .int .i64 num, .int .i64 tk]] w (actP g f k d w) := by
  have hn4 := ho.n4
  have hn1 := ho.n1
  have HO := Lib.hid ho
  have HK := Lib.hid hk
  have HY := Lib.hid hy
  have HNN := Lib.hid hN
  have HNM := Lib.hid hnm
  obtain ⟨n, hn⟩ : ∃ n, d.n = n := ⟨_, rfl⟩
  obtain ⟨ba, ca, bb, cb, hav, hbv, -⟩ := dO_see h (j := 0) (by omega)
  have H1 := Lib.hid ((Turns.refl h).push #[.int .i64 kd, .int .i64 at_, encStr nm, .int .i64 num, .int .i64 tk] 75)
  have HAV := Lib.hid hav
  have HBV := Lib.hid hbv
  have HN := Lib.hid hn
  have HJ : Hid (0 < d.n) := Lib.hid (by omega)
  rw [hn] at hn4 hn1
  have a0 := (dO_at H1.out.n1 HJ.out HAV.out HBV.out HN.out).1
  have x1 : (w.alloc (.cells #[.int .i64 kd, .int .i64 at_, encStr nm, .int .i64 num, .int .i64 tk] 75)).cell? ⟨w.heap.size, 1, none⟩ = some (.int .i64 at_) := H1.out.b0.cell 1
  have hgl := (dO_at H1.out.n1 HJ.out HAV.out HBV.out HN.out).2.2.2.2.2.2.1
  clear h ho hk hy hN hnm hav hbv hn HJ
  go_enter Try.func46, Try.ntmps46
  go_wp2_with fail
  go_region_held3 (fun w' => w'.cell? ⟨g, 0, none⟩ = some (.slice (some ⟨ba, 0, none⟩) n ca) ∧ w'.cell? ⟨w.heap.size, 1, none⟩ = some (.int .i64 at_)) (go_keep)
    (first
      | (go_at_call 53; (with_reducible refine (among_any at_ n _ (by omega) (by omega)).mono ?_); rintro r w2 ⟨j, hj, rfl, rfl⟩))
  have x0 : (w.alloc (.cells #[.int .i64 kd, .int .i64 at_, encStr nm, .int .i64 num, .int .i64 tk] 75)).drew.cell? ⟨w.heap.size, 0, none⟩ = some (.int .i64 kd) := H1.out.drew.b0.cell 0
  have x2 : (w.alloc (.cells #[.int .i64 kd, .int .i64 at_, encStr nm, .int .i64 num, .int .i64 tk] 75)).drew.cell? ⟨w.heap.size, 2, none⟩ = some (encStr nm) := H1.out.drew.b0.cell 2
  go_wp2_with fail
  (with_reducible refine (among_lit kd 7 7 rfl _ (by omega) (by omega)).mono ?_)
  rintro r w3 ⟨q, hq, rfl, rfl⟩
  have H2 : Hid (Turns w (((w.alloc (.cells #[.int .i64 kd, .int .i64 at_, encStr nm, .int .i64 num, .int .i64 tk] 75)).alloc (.cells #[encStr nm, .int .i64 0] 171)).drew) (dO g f k d) (Hp.Own.both (Hp.Own.blk (w.heap.size + 1) #[encStr nm, .int .i64 0] 171) (Hp.Own.both (Hp.Own.blk w.heap.size #[.int .i64 kd, .int .i64 at_, encStr nm, .int .i64 num, .int .i64 tk] 75) (dO g f k d)))) := Lib.hid (by
    have h := (H1.out.push #[encStr nm, .int .i64 0] 171).drew
    have e : (w.alloc (.cells #[.int .i64 kd, .int .i64 at_, encStr nm, .int .i64 num, .int .i64 tk] 75)).heap.size = w.heap.size + 1 := by simp
    rw [e] at h
    exact h)
  obtain ⟨W2, hW2⟩ : ∃ W, W = (((w.alloc (.cells #[.int .i64 kd, .int .i64 at_, encStr nm, .int .i64 num, .int .i64 tk] 75)).alloc (.cells #[encStr nm, .int .i64 0] 171)).drew) := ⟨_, rfl⟩
  rw [← hW2] at H2
  first
    | rw [← hW2]
    | (have hW3 : W2 = (((w.alloc (.cells #[.int .i64 kd, .int .i64 at_, .string ⟨nm.toArray⟩, .int .i64 num, .int .i64 tk] 75)).alloc (.cells #[.string ⟨nm.toArray⟩, .int .i64 0] 171)).drew) := hW2; rw [← hW3]; clear hW3)
    | (have hW3 : W2 = (((w.alloc (.cells #[.int .i64 kd, .int .i64 at_, encStr nm, .int .i64 num, .int .i64 tk] 75)).alloc (.cells #[.string ⟨nm.toArray⟩, .int .i64 0] 171)).drew) := hW2; rw [← hW3]; clear hW3)
  clear hW2 a0 x0 x1 x2 hgl H1
  have HJ := Lib.hid (show j < d.n by rw [HN.out]; exact hj)
  obtain ⟨a0, b0, aj, bj, af, bf, hg, hla, hlb⟩ := dO_at H2.out.n11 HJ.out HAV.out HBV.out HN.out
  have x0 : W2.cell? ⟨w.heap.size, 2, none⟩ = some (encStr nm) := H2.out.b10.cell 2
  have x4 : W2.cell? ⟨w.heap.size, 4, none⟩ = some (.int .i64 tk) := H2.out.b10.cell 4
  have y0 : W2.cell? ⟨w.heap.size + 1, 0, none⟩ = some (encStr nm) := H2.out.b0.cell 0
  have y1 : W2.cell? ⟨w.heap.size + 1, 1, none⟩ = some (.int .i64 0) := H2.out.b0.cell 1
  obtain rfl | rfl | rfl | rfl | rfl | rfl | rfl : q = 0 ∨ q = 1 ∨ q = 2 ∨ q = 3 ∨ q = 4 ∨ q = 5 ∨ q = 6 := by omega
  · have HQ := Lib.hid (HO.out.ok j HJ.out)
    have HR := Lib.hid (HO.out.rel j HJ.out)
    have HQ1 := Lib.hid HQ.out.1
    have HQ3 := Lib.hid HQ.out.2.2
    have hll := HQ.out.2.1
    have hrl := (HR.out.rng HQ.out).1
    go_wp2_with fail
    go_region_held3 (fun w' => w'.cell? ⟨g, 0, none⟩ = some (.slice (some ⟨ba, 0, none⟩) n ca) ∧ w'.cell? ⟨g, 1, none⟩ = some (.slice (some ⟨bb, 0, none⟩) n cb) ∧ w'.cell? ⟨ba, j, none⟩ = some (Ptr (d.ga j)) ∧ w'.cell? ⟨bb, j, none⟩ = some (Ptr (d.gr j)) ∧ w'.cell? ⟨w.heap.size, 2, none⟩ = some (encStr nm) ∧ w'.cell? ⟨w.heap.size, 4, none⟩ = some (.int .i64 tk) ∧ w'.cell? ⟨w.heap.size + 1, 0, none⟩ = some (encStr nm) ∧ w'.cell? ⟨w.heap.size + 1, 1, none⟩ = some (.int .i64 0)) (go_keep)
      (first
        | (go_at_call 36; (with_reducible refine (arm_any (d.ga j) (d.mb j) (d.l j) nm tk _ (dO_tb H2.out.drew.n11 HJ.out) (by omega)).mono ?_); rintro r w4 ⟨rfl, ht4⟩; have HT4 := Lib.hid (H2.out.drew.at2 (dO_t H2.out.drew.n11 HJ.out ht4)); clear ht4; have q4 := dO_at HT4.out.n11 HJ.out HAV.out HBV.out HN.out; have a04 : w4.cell? ⟨g, 0, none⟩ = some (.slice (some ⟨ba, 0, none⟩) n ca) := q4.1; have b04 : w4.cell? ⟨g, 1, none⟩ = some (.slice (some ⟨bb, 0, none⟩) n cb) := q4.2.1; have aj4 : w4.cell? ⟨ba, j, none⟩ = some (Ptr (d.ga j)) := q4.2.2.1; have bj4 : w4.cell? ⟨bb, j, none⟩ = some (Ptr (d.gr j)) := q4.2.2.2.1; clear q4; have x04 : w4.cell? ⟨w.heap.size, 2, none⟩ = some (encStr nm) := HT4.out.b10.cell 2; have x44 : w4.cell? ⟨w.heap.size, 4, none⟩ = some (.int .i64 tk) := HT4.out.b10.cell 4; have y04 : w4.cell? ⟨w.heap.size + 1, 0, none⟩ = some (encStr nm) := HT4.out.b0.cell 0; have y14 : w4.cell? ⟨w.heap.size + 1, 1, none⟩ = some (.int .i64 0) := HT4.out.b0.cell 1)
        | (go_at_call 90; (with_reducible refine (Tf.arm_any (d.gr j) (d.vr j) (d.r j) (emb nm) tk _ (dO_ref HT4.out.n11 HJ.out) (by omega)).mono ?_); rintro r w5 ⟨rfl, v5, ht5⟩; rw [HR.out.eArm HQ.out.1]; have HT5 := Lib.hid (HT4.out.at2 (dO_r HT4.out.n11 HJ.out ht5)); clear ht5; have q5 := dO_at HT5.out.n11 HJ.out HAV.out HBV.out HN.out; have a05 : w5.cell? ⟨g, 0, none⟩ = some (.slice (some ⟨ba, 0, none⟩) n ca) := q5.1; have b05 : w5.cell? ⟨g, 1, none⟩ = some (.slice (some ⟨bb, 0, none⟩) n cb) := q5.2.1; have aj5 : w5.cell? ⟨ba, j, none⟩ = some (Ptr (d.ga j)) := q5.2.2.1; have bj5 : w5.cell? ⟨bb, j, none⟩ = some (Ptr (d.gr j)) := q5.2.2.2.1; clear q5; have x05 : w5.cell? ⟨w.heap.size, 2, none⟩ = some (encStr nm) := HT5.out.b10.cell 2; have x45 : w5.cell? ⟨w.heap.size, 4, none⟩ = some (.int .i64 tk) := HT5.out.b10.cell 4; have y05 : w5.cell? ⟨w.heap.size + 1, 0, none⟩ = some (encStr nm) := HT5.out.b0.cell 0; have y15 : w5.cell? ⟨w.heap.size + 1, 1, none⟩ = some (.int .i64 0) := HT5.out.b0.cell 1))
    go_wp2_with fail
    refine bodyPost_ret (v := .bool true) (by simp [results, Try.results46, go_sem, *]) rfl ⟨rfl, f, k, _, Ok_set HO.out (ok_arm HQ.out nm tk) (HR.out.arm HQ.out.1 nm tk) (key_arm (HO.out.key j HJ.out) HNM.out), HK.out, HY.out, by omega, HT5.out.dropL.dropL⟩
  · have HQ := Lib.hid (HO.out.ok j HJ.out)
    have HR := Lib.hid (HO.out.rel j HJ.out)
    have HQ1 := Lib.hid HQ.out.1
    have HQ3 := Lib.hid HQ.out.2.2
    have hll := HQ.out.2.1
    have hrl := (HR.out.rng HQ.out).1
    go_wp2_with fail
    go_region_held3 (fun w' => w'.cell? ⟨g, 0, none⟩ = some (.slice (some ⟨ba, 0, none⟩) n ca) ∧ w'.cell? ⟨g, 1, none⟩ = some (.slice (some ⟨bb, 0, none⟩) n cb) ∧ w'.cell? ⟨ba, j, none⟩ = some (Ptr (d.ga j)) ∧ w'.cell? ⟨bb, j, none⟩ = some (Ptr (d.gr j)) ∧ w'.cell? ⟨w.heap.size, 2, none⟩ = some (encStr nm) ∧ w'.cell? ⟨w.heap.size, 4, none⟩ = some (.int .i64 tk) ∧ w'.cell? ⟨w.heap.size + 1, 0, none⟩ = some (encStr nm) ∧ w'.cell? ⟨w.heap.size + 1, 1, none⟩ = some (.int .i64 0)) (go_keep)
      (first
        | (go_at_call 37; (with_reducible refine (cancel_any (d.ga j) (d.mb j) (d.l j) nm _ (dO_tb H2.out.drew.n11 HJ.out)).mono ?_); rintro r w4 ⟨rfl, ht4⟩; have HT4 := Lib.hid (H2.out.drew.at2 (dO_t H2.out.drew.n11 HJ.out ht4)); clear ht4; have q4 := dO_at HT4.out.n11 HJ.out HAV.out HBV.out HN.out; have a04 : w4.cell? ⟨g, 0, none⟩ = some (.slice (some ⟨ba, 0, none⟩) n ca) := q4.1; have b04 : w4.cell? ⟨g, 1, none⟩ = some (.slice (some ⟨bb, 0, none⟩) n cb) := q4.2.1; have aj4 : w4.cell? ⟨ba, j, none⟩ = some (Ptr (d.ga j)) := q4.2.2.1; have bj4 : w4.cell? ⟨bb, j, none⟩ = some (Ptr (d.gr j)) := q4.2.2.2.1; clear q4; have x04 : w4.cell? ⟨w.heap.size, 2, none⟩ = some (encStr nm) := HT4.out.b10.cell 2; have x44 : w4.cell? ⟨w.heap.size, 4, none⟩ = some (.int .i64 tk) := HT4.out.b10.cell 4; have y04 : w4.cell? ⟨w.heap.size + 1, 0, none⟩ = some (encStr nm) := HT4.out.b0.cell 0; have y14 : w4.cell? ⟨w.heap.size + 1, 1, none⟩ = some (.int .i64 0) := HT4.out.b0.cell 1)
        | (go_at_call 91; (with_reducible refine (Tf.cancel_any (d.gr j) (d.vr j) (d.r j) (emb nm) _ (dO_ref HT4.out.n11 HJ.out) (by omega)).mono ?_); rintro r w5 ⟨rfl, v5, ht5⟩; rw [HR.out.isSome HQ.out.1]; have HT5 := Lib.hid (HT4.out.at2 (dO_r HT4.out.n11 HJ.out ht5)); clear ht5; have q5 := dO_at HT5.out.n11 HJ.out HAV.out HBV.out HN.out; have a05 : w5.cell? ⟨g, 0, none⟩ = some (.slice (some ⟨ba, 0, none⟩) n ca) := q5.1; have b05 : w5.cell? ⟨g, 1, none⟩ = some (.slice (some ⟨bb, 0, none⟩) n cb) := q5.2.1; have aj5 : w5.cell? ⟨ba, j, none⟩ = some (Ptr (d.ga j)) := q5.2.2.1; have bj5 : w5.cell? ⟨bb, j, none⟩ = some (Ptr (d.gr j)) := q5.2.2.2.1; clear q5; have x05 : w5.cell? ⟨w.heap.size, 2, none⟩ = some (encStr nm) := HT5.out.b10.cell 2; have x45 : w5.cell? ⟨w.heap.size, 4, none⟩ = some (.int .i64 tk) := HT5.out.b10.cell 4; have y05 : w5.cell? ⟨w.heap.size + 1, 0, none⟩ = some (encStr nm) := HT5.out.b0.cell 0; have y15 : w5.cell? ⟨w.heap.size + 1, 1, none⟩ = some (.int .i64 0) := HT5.out.b0.cell 1))
    go_wp2_with fail
    refine bodyPost_ret (v := .bool true) (by simp [results, Try.results46, go_sem, *]) rfl ⟨rfl, f, k, _, Ok_set HO.out (ok_del HQ.out nm) (HR.out.cancel HQ.out.1 nm) (key_del (HO.out.key j HJ.out)), HK.out, HY.out, by omega, HT5.out.dropL.dropL⟩
  · have HQ := Lib.hid (HO.out.ok j HJ.out)
    have HR := Lib.hid (HO.out.rel j HJ.out)
    have HQ1 := Lib.hid HQ.out.1
    have HQ3 := Lib.hid HQ.out.2.2
    have hll := HQ.out.2.1
    have hrl := (HR.out.rng HQ.out).1
    have HRR := Lib.hid (HR.out.rng HQ.out).2
    go_wp2_with (first
      | (go_at_call 39; (with_reducible refine (tick_any (d.ga j) (d.mb j) (d.l j) _ (dO_tb H2.out.n11 HJ.out) HQ1.out (by omega) HQ3.out).mono ?_); rintro r w4 ⟨o, A4, c4, hp, rfl, ht4⟩; have hol : o.length ≤ 32 := (by rw [hp.length_eq]; exact Nat.le_trans (told_len _ _) hll); rw [HR.out.tells HQ.out.1 hp] at ht4; obtain ⟨m, hm⟩ : ∃ m, o.length = m := ⟨_, rfl⟩; rw [hm] at ht4 hol; simp only [hm]; clear hp hm; have HT4 := Lib.hid (H2.out.at2 (dO_tout H2.out.n11 HJ.out ht4)); clear ht4; have q4 := dO_at HT4.out.n11.2.1 HJ.out HAV.out HBV.out HN.out; have a04 : w4.cell? ⟨g, 0, none⟩ = some (.slice (some ⟨ba, 0, none⟩) n ca) := q4.1; have b04 : w4.cell? ⟨g, 1, none⟩ = some (.slice (some ⟨bb, 0, none⟩) n cb) := q4.2.1; have aj4 : w4.cell? ⟨ba, j, none⟩ = some (Ptr (d.ga j)) := q4.2.2.1; have bj4 : w4.cell? ⟨bb, j, none⟩ = some (Ptr (d.gr j)) := q4.2.2.2.1; clear q4; have h9 := dO_rowbk HT4.out.n11; have HB4 : Hid ((Hp.Own.both (Hp.Own.row 9 1 (.slice A4 m c4) m ((List.map une _).map encStr)) (bO 104 g d.av d.bv f k)).holds w4) := Lib.hid h9; clear h9)
      | (go_at_call 92; (with_reducible refine (keep_any 104 g d.av d.bv f k A4 m c4 _ _ HB4.out (gd_map _) (HK.out.no (Nat.le_refl _)) (by omega) (by have := HNN.out; have := HK.out.lob; omega)).mono ?_); rintro r w5 ⟨rfl, ov, wv, y, ht5⟩; have HT5 := Lib.hid (HT4.out.at2 (dO_keep HT4.out.n11 ht5)); clear ht5; have q5 := dO_at HT5.out.n11 HJ.out HAV.out HBV.out HN.out; have a05 : w5.cell? ⟨g, 0, none⟩ = some (.slice (some ⟨ba, 0, none⟩) n ca) := q5.1; have b05 : w5.cell? ⟨g, 1, none⟩ = some (.slice (some ⟨bb, 0, none⟩) n cb) := q5.2.1; have aj5 : w5.cell? ⟨ba, j, none⟩ = some (Ptr (d.ga j)) := q5.2.2.1; have bj5 : w5.cell? ⟨bb, j, none⟩ = some (Ptr (d.gr j)) := q5.2.2.2.1; clear q5)
      | (go_at_call 94; (with_reducible refine (Tf.tick_any (d.gr j) (d.vr j) (d.r j) _ (dO_ref HT5.out.n11 HJ.out) (by omega) HRR.out).mono ?_); rintro r w6 ⟨vt, v6, rfl, ht6⟩; obtain ⟨A6, c6, rfl⟩ := row_slice ht6.now.1; have HT6 := Lib.hid (HT5.out.at2 (dO_rout HT5.out.n11 HJ.out ht6)); clear ht6)
      | (go_at_call 93; (with_reducible refine (agree_any A4 m c4 A6 c6 (rtold (d.r j)) _ (add_src HT6.out.n111 HK.out) HT6.out.n110 (by omega)).mono ?_); rintro r w7 ⟨rfl, hc7⟩; have HT7 := Lib.hid (HT6.out.kept hc7); clear hc7))
    refine bodyPost_ret (v := .bool true) (by simp [results, Try.results46, go_sem, *]) rfl ⟨rfl, f, _, _, Ok_set HO.out (ok_cur HQ.out) HR.out.tick (key_cur (HO.out.key j HJ.out)), HK.out.add _ _ _ _ _ _, HY.out.add _ _ _ _ (gd_map _) (by omega), (by show 2 * (k.M + 1) - f ≤ 2 * k.M - f + 2; omega), HT7.out.dropL.dropL.dropL⟩
  · have HQ := Lib.hid (HO.out.ok j HJ.out)
    have HR := Lib.hid (HO.out.rel j HJ.out)
    have HQ1 := Lib.hid HQ.out.1
    have HQ3 := Lib.hid HQ.out.2.2
    have hll := HQ.out.2.1
    have hrl := (HR.out.rng HQ.out).1
    go_wp2_with fail
    go_region_held3 (fun w' => w'.cell? ⟨g, 0, none⟩ = some (.slice (some ⟨ba, 0, none⟩) n ca) ∧ w'.cell? ⟨g, 1, none⟩ = some (.slice (some ⟨bb, 0, none⟩) n cb) ∧ w'.cell? ⟨ba, j, none⟩ = some (Ptr (d.ga j)) ∧ w'.cell? ⟨bb, j, none⟩ = some (Ptr (d.gr j)) ∧ w'.cell? ⟨w.heap.size, 2, none⟩ = some (encStr nm) ∧ w'.cell? ⟨w.heap.size, 4, none⟩ = some (.int .i64 tk) ∧ w'.cell? ⟨w.heap.size + 1, 0, none⟩ = some (encStr nm) ∧ w'.cell? ⟨w.heap.size + 1, 1, none⟩ = some (.int .i64 0)) (go_keep)
      (first
        | (go_at_call 38; (with_reducible refine (left_any (d.ga j) (d.mb j) (d.l j) nm _ (dO_tb H2.out.drew.n11 HJ.out)).mono ?_); rintro r w4 ⟨rfl, rfl⟩))
    have H3 := Lib.hid (H2.out.drew)
    obtain ⟨W3, hW3⟩ : ∃ W, W = W2.drew := ⟨_, rfl⟩
    rw [← hW3] at H3 ⊢
    clear hW3 a0 b0 aj bj af bf hg hla hlb x0 x4 y0 y1
    have q := dO_at H3.out.n11 HJ.out HAV.out HBV.out HN.out; have a0 : W3.cell? ⟨g, 0, none⟩ = some (.slice (some ⟨ba, 0, none⟩) n ca) := q.1; have b0 : W3.cell? ⟨g, 1, none⟩ = some (.slice (some ⟨bb, 0, none⟩) n cb) := q.2.1; have aj : W3.cell? ⟨ba, j, none⟩ = some (Ptr (d.ga j)) := q.2.2.1; have bj : W3.cell? ⟨bb, j, none⟩ = some (Ptr (d.gr j)) := q.2.2.2.1; clear q
    have x0 : W3.cell? ⟨w.heap.size, 2, none⟩ = some (encStr nm) := H3.out.b10.cell 2; have x4 : W3.cell? ⟨w.heap.size, 4, none⟩ = some (.int .i64 tk) := H3.out.b10.cell 4; have y0 : W3.cell? ⟨w.heap.size + 1, 0, none⟩ = some (encStr nm) := H3.out.b0.cell 0; have y1 : W3.cell? ⟨w.heap.size + 1, 1, none⟩ = some (.int .i64 0) := H3.out.b0.cell 1
    go_wp2_with fail
    go_region_held3 (fun w' => w'.cell? ⟨g, 0, none⟩ = some (.slice (some ⟨ba, 0, none⟩) n ca) ∧ w'.cell? ⟨g, 1, none⟩ = some (.slice (some ⟨bb, 0, none⟩) n cb) ∧ w'.cell? ⟨ba, j, none⟩ = some (Ptr (d.ga j)) ∧ w'.cell? ⟨bb, j, none⟩ = some (Ptr (d.gr j)) ∧ w'.cell? ⟨w.heap.size, 2, none⟩ = some (encStr nm) ∧ w'.cell? ⟨w.heap.size, 4, none⟩ = some (.int .i64 tk) ∧ w'.cell? ⟨w.heap.size + 1, 0, none⟩ = some (encStr nm) ∧ w'.cell? ⟨w.heap.size + 1, 1, none⟩ = some (.int .i64 0)) (go_keep)
      (first
        | (go_at_call 95; (with_reducible refine (Tf.left_any (d.gr j) (d.vr j) (d.r j) (emb nm) _ (dO_ref H3.out.drew.n11 HJ.out) (by omega)).mono ?_); rintro r w5 ⟨rfl, hc5⟩; rw [HR.out.left HQ.out.1]; have HT5 := Lib.hid (H3.out.drew.kept hc5); clear hc5; have q5 := dO_at HT5.out.n11 HJ.out HAV.out HBV.out HN.out; have a05 : w5.cell? ⟨g, 0, none⟩ = some (.slice (some ⟨ba, 0, none⟩) n ca) := q5.1; have b05 : w5.cell? ⟨g, 1, none⟩ = some (.slice (some ⟨bb, 0, none⟩) n cb) := q5.2.1; have aj5 : w5.cell? ⟨ba, j, none⟩ = some (Ptr (d.ga j)) := q5.2.2.1; have bj5 : w5.cell? ⟨bb, j, none⟩ = some (Ptr (d.gr j)) := q5.2.2.2.1; clear q5; have x05 : w5.cell? ⟨w.heap.size, 2, none⟩ = some (encStr nm) := HT5.out.b10.cell 2; have x45 : w5.cell? ⟨w.heap.size, 4, none⟩ = some (.int .i64 tk) := HT5.out.b10.cell 4; have y05 : w5.cell? ⟨w.heap.size + 1, 0, none⟩ = some (encStr nm) := HT5.out.b0.cell 0; have y15 : w5.cell? ⟨w.heap.size + 1, 1, none⟩ = some (.int .i64 0) := HT5.out.b0.cell 1))
    go_wp2_with fail
    refine bodyPost_ret (v := .bool true) (by simp [results, Try.results46, go_sem, *]) rfl ⟨rfl, f, k, d, HO.out, HK.out, HY.out, by omega, HT5.out.dropL.dropL⟩
  · have HQ := Lib.hid (HO.out.ok j HJ.out)
    have HR := Lib.hid (HO.out.rel j HJ.out)
    have HQ1 := Lib.hid HQ.out.1
    have HQ3 := Lib.hid HQ.out.2.2
    have hll := HQ.out.2.1
    have hrl := (HR.out.rng HQ.out).1
    have HRL := Lib.hid (HR.out.len HQ.out.1)
    go_wp2_with (first
      | (go_at_call 96; (with_reducible refine (armed_any (d.ga j) (d.mb j) (d.l j) _ (dO_tb H2.out.n11 HJ.out) (HO.out.key j HJ.out) (by omega)).mono ?_); rintro r w4 ⟨A4, c4, rfl, ht4⟩; rw [HR.out.armed HQ.out.1] at ht4; obtain ⟨m, hm⟩ : ∃ m, (d.l j).length = m := ⟨_, rfl⟩; rw [hm] at ht4 hll HRL; simp only [hm]; clear hm; have HT4 := Lib.hid (H2.out.at2 (dO_tout H2.out.n11 HJ.out (l' := d.l j) ht4)); rw [setT_self] at HT4; clear ht4; have q4 := dO_at HT4.out.n11.2.1 HJ.out HAV.out HBV.out HN.out; have a04 : w4.cell? ⟨g, 0, none⟩ = some (.slice (some ⟨ba, 0, none⟩) n ca) := q4.1; have b04 : w4.cell? ⟨g, 1, none⟩ = some (.slice (some ⟨bb, 0, none⟩) n cb) := q4.2.1; have aj4 : w4.cell? ⟨ba, j, none⟩ = some (Ptr (d.ga j)) := q4.2.2.1; have bj4 : w4.cell? ⟨bb, j, none⟩ = some (Ptr (d.gr j)) := q4.2.2.2.1; clear q4; have h9 := dO_rowbk HT4.out.n11; have HB4 : Hid ((Hp.Own.both (Hp.Own.row 9 1 (.slice A4 m c4) m ((List.map une _).map encStr)) (bO 104 g d.av d.bv f k)).holds w4) := Lib.hid h9; clear h9)
      | (go_at_call 92; (with_reducible refine (keep_any 104 g d.av d.bv f k A4 m c4 _ _ HB4.out (gd_map _) (HK.out.no (Nat.le_refl _)) (by omega) (by have := HNN.out; have := HK.out.lob; omega)).mono ?_); rintro r w5 ⟨rfl, ov, wv, y, ht5⟩; have HT5 := Lib.hid (HT4.out.at2 (dO_keep HT4.out.n11 ht5)); clear ht5; have q5 := dO_at HT5.out.n11 HJ.out HAV.out HBV.out HN.out; have a05 : w5.cell? ⟨g, 0, none⟩ = some (.slice (some ⟨ba, 0, none⟩) n ca) := q5.1; have b05 : w5.cell? ⟨g, 1, none⟩ = some (.slice (some ⟨bb, 0, none⟩) n cb) := q5.2.1; have aj5 : w5.cell? ⟨ba, j, none⟩ = some (Ptr (d.ga j)) := q5.2.2.1; have bj5 : w5.cell? ⟨bb, j, none⟩ = some (Ptr (d.gr j)) := q5.2.2.2.1; clear q5)
      | (go_at_call 63; (with_reducible refine (Tf.armed_any (d.gr j) (d.vr j) (d.r j) _ (dO_ref HT5.out.n11 HJ.out) (by omega)).mono ?_); rintro r w6 ⟨vt, rfl, ht6⟩; rw [← nms_len] at ht6; obtain ⟨A6, c6, rfl⟩ := row_slice ht6.now; have HT6 := Lib.hid (HT5.out.pushT ht6); clear ht6)
      | (go_at_call 93; (with_reducible refine (agree_any A4 m c4 A6 c6 (nms (d.r j)) _ (add_src HT6.out.n111 HK.out) HT6.out.n0 (by omega)).mono ?_); rintro r w7 ⟨rfl, hc7⟩; have HT7 := Lib.hid (HT6.out.kept hc7); clear hc7))
    refine bodyPost_ret (v := .bool true) (by simp [results, Try.results46, go_sem, *]) rfl ⟨rfl, f, _, d, HO.out, HK.out.add _ _ _ _ _ _, HY.out.add _ _ _ _ (gd_map _) (by omega), (by show 2 * (k.M + 1) - f ≤ 2 * k.M - f + 2; omega), HT7.out.dropL.dropL.dropL⟩
  · go_wp2_with (first
      | (go_at_call 97; (with_reducible refine (desk_clone g f k d j tk _ H2.out.n11 HO.out HJ.out).mono ?_); rintro r w4 ⟨rfl, d', hd', ht4⟩; have HT4 := Lib.hid (H2.out.at2 ht4); have HO4 := Lib.hid hd'; clear ht4 hd'))
    refine bodyPost_ret (v := .bool true) (by simp [results, Try.results46, go_sem, *]) rfl ⟨rfl, f, k, d', HO4.out, HK.out, HY.out, by omega, HT4.out.dropL.dropL⟩
  · go_wp2_with (first
      | (go_at_call 49; (with_reducible refine (write_any 104 g d.av d.bv f k _ (dO_bo H2.out.n11) HK.out HY.out (by have := HNN.out; omega)).mono ?_); rintro r w4 ⟨rfl, k', hm, hw', hy', ht4⟩; have HT4 := Lib.hid (H2.out.at2 (dO_bk H2.out.n11 ht4)); have HK4 := Lib.hid hw'; have HY4 := Lib.hid hy'; have HM4 := Lib.hid hm; clear ht4 hw' hy' hm))
    refine bodyPost_ret (v := .bool true) (by simp [results, Try.results46, go_sem, *]) rfl ⟨rfl, k'.M, k', d, HO.out, HK4.out, HY4.out, by have := HM4.out; omega, HT4.out.dropL.dropL⟩
end Go.Proofs.Ytmpkjfengfgagaa.Ts
