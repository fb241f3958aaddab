/- The law's tables of whole numbers: act. -/
import Derived.Test.YtmpkjfengfgagaaTmKI
namespace Go.Proofs.Ytmpkjfengfgagaa.Ti
open Go.RowKit Go.Hp
attribute [local go_sem] min2_lean min_two max2_lean max_two
set_option linter.unusedSimpArgs false
set_option linter.unusedVariables false
set_option maxRecDepth 100000
open Tf
def actP (g f : Nat) (k : KT) (d : DK) (w : World) (e : Ending) (w' : World) : Prop := e = .returned (.bool true) ∧ ∃ f' k' d', d'.Ok ∧ k'.Wf f' k'.M ∧ Oky k' ∧ 2 * k'.M - f' ≤ 2 * k.M - f + 2 ∧ Turns w w' (dO g f k d) (dO g f' k' d')
set_option maxHeartbeats 4000000 in
theorem act_any (g f : Nat) (k : KT) (d : DK) (kd at_ num tk : Int) (nm : List UInt8) (w : World) (h : (dO g f k d).holds w) (ho : d.Ok) (hk : k.Wf f k.M) (hy : Oky k) (hN : 2 * k.M - f ≤ 8796093022200) (hnm : (Lit.int .i64 num).wf = true) :
    Calls Try.prog 51 #[.pointer (some ⟨g, 0, none⟩), .agg #[.int .i64 kd, .int .i64 at_, encStr nm, .int .i64 num, .int .i64 tk]] w (actP g f k d w) := by
  have hn4 := ho.n4
  have hn1 := ho.n1
  have HO := Lib.hid ho
  have HK := Lib.hid hk
  have HY := Lib.hid hy
  have HNN := Lib.hid hN
  have HNM := Lib.hid hnm
  obtain ⟨n, hn⟩ : ∃ n, d.n = n := ⟨_, rfl⟩
  obtain ⟨ba, ca, bb, cb, hav, hbv, -⟩ := dO_see h (j := 0) (by omega)
  have H1 := Lib.hid ((Turns.refl h).push #[.int .i64 kd, .int .i64 at_, encStr nm, .int .i64 num, .int .i64 tk] 75)
  have HAV := Lib.hid hav
  have HBV := Lib.hid hbv
  have HN := Lib.hid hn
  have HJ : Hid (0 < d.n) := Lib.hid (by omega)
  rw [hn] at hn4 hn1
  have a0 := (dO_at H1.out.n1 HJ.out HAV.out HBV.out HN.out).1
  have x1 : (w.alloc (.cells #[.int .i64 kd, .int .i64 at_, encStr nm, .int .i64 num, .int .i64 tk] 75)).cell? ⟨w.heap.size, 1, none⟩ = some (.int .i64 at_) := H1.out.b0.cell 1
  have hgl := (dO_at H1.out.n1 HJ.out HAV.out HBV.out HN.out).2.2.2.2.2.2.1
  clear h ho hk hy hN hnm hav hbv hn HJ
  go_enter Try.func51, Try.ntmps51
  go_wp2_with fail
  go_region_held3 (fun w' => w'.cell? ⟨g, 0, none⟩ = some (.slice (some ⟨ba, 0, none⟩) n ca) ∧ w'.cell? ⟨w.heap.size, 1, none⟩ = some (.int .i64 at_)) (go_keep)
    (first
      | (go_at_call 53; (with_reducible refine (among_any at_ n _ (by omega) (by omega)).mono ?_); rintro r w2 ⟨j, hj, rfl, rfl⟩))
  have x0 : (w.alloc (.cells #[.int .i64 kd, .int .i64 at_, encStr nm, .int .i64 num, .int .i64 tk] 75)).drew.cell? ⟨w.heap.size, 0, none⟩ = some (.int .i64 kd) := H1.out.drew.b0.cell 0
  have x2 : (w.alloc (.cells #[.int .i64 kd, .int .i64 at_, encStr nm, .int .i64 num, .int .i64 tk] 75)).drew.cell? ⟨w.heap.size, 3, none⟩ = some (.int .i64 num) := H1.out.drew.b0.cell 3
  go_wp2_with fail
  (with_reducible refine (among_lit kd 7 7 rfl _ (by omega) (by omega)).mono ?_)
  rintro r w3 ⟨q, hq, rfl, rfl⟩
  have H2 : Hid (Turns w (((w.alloc (.cells #[.int .i64 kd, .int .i64 at_, encStr nm, .int .i64 num, .int .i64 tk] 75)).alloc (.cells #[.string ByteArray.empty, .int .i64 num] 171)).drew) (dO g f k d) (Hp.Own.both (Hp.Own.blk (w.heap.size + 1) #[.string ByteArray.empty, .int .i64 num] 171) (Hp.Own.both (Hp.Own.blk w.heap.size #[.int .i64 kd, .int .i64 at_, encStr nm, .int .i64 num, .int .i64 tk] 75) (dO g f k d)))) := Lib.hid (by
    have h := (H1.out.push #[.string ByteArray.empty, .int .i64 num] 171).drew
    have e : (w.alloc (.cells #[.int .i64 kd, .int .i64 at_, encStr nm, .int .i64 num, .int .i64 tk] 75)).heap.size = w.heap.size + 1 := by simp
    rw [e] at h
    exact h)
  obtain ⟨W2, hW2⟩ : ∃ W, W = (((w.alloc (.cells #[.int .i64 kd, .int .i64 at_, encStr nm, .int .i64 num, .int .i64 tk] 75)).alloc (.cells #[.string ByteArray.empty, .int .i64 num] 171)).drew) := ⟨_, rfl⟩
  rw [← hW2] at H2
  first
    | rw [← hW2]
    | (have hW3 : W2 = (((w.alloc (.cells #[.int .i64 kd, .int .i64 at_, .string ⟨nm.toArray⟩, .int .i64 num, .int .i64 tk] 75)).alloc (.cells #[.string ⟨#[]⟩, .int .i64 num] 171)).drew) := hW2; rw [← hW3]; clear hW3)
    | (have hW3 : W2 = (((w.alloc (.cells #[.int .i64 kd, .int .i64 at_, encStr nm, .int .i64 num, .int .i64 tk] 75)).alloc (.cells #[.string ⟨#[]⟩, .int .i64 num] 171)).drew) := hW2; rw [← hW3]; clear hW3)
  clear hW2 a0 x0 x1 x2 hgl H1
  have HJ := Lib.hid (show j < d.n by rw [HN.out]; exact hj)
  obtain ⟨a0, b0, aj, bj, af, bf, hg, hla, hlb⟩ := dO_at H2.out.n11 HJ.out HAV.out HBV.out HN.out
  have x0 : W2.cell? ⟨w.heap.size, 3, none⟩ = some (.int .i64 num) := H2.out.b10.cell 3
  have x4 : W2.cell? ⟨w.heap.size, 4, none⟩ = some (.int .i64 tk) := H2.out.b10.cell 4
  have y0 : W2.cell? ⟨w.heap.size + 1, 0, none⟩ = some (.string ByteArray.empty) := H2.out.b0.cell 0
  have y1 : W2.cell? ⟨w.heap.size + 1, 1, none⟩ = some (.int .i64 num) := H2.out.b0.cell 1
  obtain rfl | rfl | rfl | rfl | rfl | rfl | rfl : q = 0 ∨ q = 1 ∨ q = 2 ∨ q = 3 ∨ q = 4 ∨ q = 5 ∨ q = 6 := by omega
  · have HQ := Lib.hid (HO.out.ok j HJ.out)
    have HR := Lib.hid (HO.out.rel j HJ.out)
    have HQ1 := Lib.hid HQ.out.1
    have HQ3 := Lib.hid HQ.out.2.2
    have hll := HQ.out.2.1
    have hrl := (HR.out.rng HQ.out).1
    go_wp2_with fail
    go_region_held3 (fun w' => w'.cell? ⟨g, 0, none⟩ = some (.slice (some ⟨ba, 0, none⟩) n ca) ∧ w'.cell? ⟨g, 1, none⟩ = some (.slice (some ⟨bb, 0, none⟩) n cb) ∧ w'.cell? ⟨ba, j, none⟩ = some (Ptr (d.ga j)) ∧ w'.cell? ⟨bb, j, none⟩ = some (Ptr (d.gr j)) ∧ w'.cell? ⟨w.heap.size, 3, none⟩ = some (.int .i64 num) ∧ w'.cell? ⟨w.heap.size, 4, none⟩ = some (.int .i64 tk) ∧ w'.cell? ⟨w.heap.size + 1, 0, none⟩ = some (.string ByteArray.empty) ∧ w'.cell? ⟨w.heap.size + 1, 1, none⟩ = some (.int .i64 num)) (go_keep)
      (first
        | (go_at_call 99; (with_reducible refine (arm_any (d.ga j) (d.mb j) (d.l j) num tk _ (dO_tb H2.out.drew.n11 HJ.out) (by omega)).mono ?_); rintro r w4 ⟨rfl, ht4⟩; have HT4 := Lib.hid (H2.out.drew.at2 (dO_t H2.out.drew.n11 HJ.out ht4)); clear ht4; have q4 := dO_at HT4.out.n11 HJ.out HAV.out HBV.out HN.out; have a04 : w4.cell? ⟨g, 0, none⟩ = some (.slice (some ⟨ba, 0, none⟩) n ca) := q4.1; have b04 : w4.cell? ⟨g, 1, none⟩ = some (.slice (some ⟨bb, 0, none⟩) n cb) := q4.2.1; have aj4 : w4.cell? ⟨ba, j, none⟩ = some (Ptr (d.ga j)) := q4.2.2.1; have bj4 : w4.cell? ⟨bb, j, none⟩ = some (Ptr (d.gr j)) := q4.2.2.2.1; clear q4; have x04 : w4.cell? ⟨w.heap.size, 3, none⟩ = some (.int .i64 num) := HT4.out.b10.cell 3; have x44 : w4.cell? ⟨w.heap.size, 4, none⟩ = some (.int .i64 tk) := HT4.out.b10.cell 4; have y04 : w4.cell? ⟨w.heap.size + 1, 0, none⟩ = some (.string ByteArray.empty) := HT4.out.b0.cell 0; have y14 : w4.cell? ⟨w.heap.size + 1, 1, none⟩ = some (.int .i64 num) := HT4.out.b0.cell 1)
        | (go_at_call 90; (refine (Tf.arm_any (d.gr j) (d.vr j) (d.r j) (emb num) tk _ (dO_ref HT4.out.n11 HJ.out) (by omega)).mono ?_); rintro r w5 ⟨rfl, v5, ht5⟩; rw [HR.out.eArm HQ.out.1]; have HT5 := Lib.hid (HT4.out.at2 (dO_r HT4.out.n11 HJ.out ht5)); clear ht5; have q5 := dO_at HT5.out.n11 HJ.out HAV.out HBV.out HN.out; have a05 : w5.cell? ⟨g, 0, none⟩ = some (.slice (some ⟨ba, 0, none⟩) n ca) := q5.1; have b05 : w5.cell? ⟨g, 1, none⟩ = some (.slice (some ⟨bb, 0, none⟩) n cb) := q5.2.1; have aj5 : w5.cell? ⟨ba, j, none⟩ = some (Ptr (d.ga j)) := q5.2.2.1; have bj5 : w5.cell? ⟨bb, j, none⟩ = some (Ptr (d.gr j)) := q5.2.2.2.1; clear q5; have x05 : w5.cell? ⟨w.heap.size, 3, none⟩ = some (.int .i64 num) := HT5.out.b10.cell 3; have x45 : w5.cell? ⟨w.heap.size, 4, none⟩ = some (.int .i64 tk) := HT5.out.b10.cell 4; have y05 : w5.cell? ⟨w.heap.size + 1, 0, none⟩ = some (.string ByteArray.empty) := HT5.out.b0.cell 0; have y15 : w5.cell? ⟨w.heap.size + 1, 1, none⟩ = some (.int .i64 num) := HT5.out.b0.cell 1))
    go_wp2_with fail
    refine bodyPost_ret (v := .bool true) (by simp [results, Try.results51, go_sem, *]) rfl ⟨rfl, f, k, _, Ok_set HO.out (ok_arm HQ.out num tk) (HR.out.arm HQ.out.1 num tk) (key_arm (HO.out.key j HJ.out) HNM.out), HK.out, HY.out, by omega, HT5.out.dropL.dropL⟩
  · have HQ := Lib.hid (HO.out.ok j HJ.out)
    have HR := Lib.hid (HO.out.rel j HJ.out)
    have HQ1 := Lib.hid HQ.out.1
    have HQ3 := Lib.hid HQ.out.2.2
    have hll := HQ.out.2.1
    have hrl := (HR.out.rng HQ.out).1
    go_wp2_with fail
    go_region_held3 (fun w' => w'.cell? ⟨g, 0, none⟩ = some (.slice (some ⟨ba, 0, none⟩) n ca) ∧ w'.cell? ⟨g, 1, none⟩ = some (.slice (some ⟨bb, 0, none⟩) n cb) ∧ w'.cell? ⟨ba, j, none⟩ = some (Ptr (d.ga j)) ∧ w'.cell? ⟨bb, j, none⟩ = some (Ptr (d.gr j)) ∧ w'.cell? ⟨w.heap.size, 3, none⟩ = some (.int .i64 num) ∧ w'.cell? ⟨w.heap.size, 4, none⟩ = some (.int .i64 tk) ∧ w'.cell? ⟨w.heap.size + 1, 0, none⟩ = some (.string ByteArray.empty) ∧ w'.cell? ⟨w.heap.size + 1, 1, none⟩ = some (.int .i64 num)) (go_keep)
      (first
        | (go_at_call 100; (with_reducible refine (cancel_any (d.ga j) (d.mb j) (d.l j) num _ (dO_tb H2.out.drew.n11 HJ.out)).mono ?_); rintro r w4 ⟨rfl, ht4⟩; have HT4 := Lib.hid (H2.out.drew.at2 (dO_t H2.out.drew.n11 HJ.out ht4)); clear ht4; have q4 := dO_at HT4.out.n11 HJ.out HAV.out HBV.out HN.out; have a04 : w4.cell? ⟨g, 0, none⟩ = some (.slice (some ⟨ba, 0, none⟩) n ca) := q4.1; have b04 : w4.cell? ⟨g, 1, none⟩ = some (.slice (some ⟨bb, 0, none⟩) n cb) := q4.2.1; have aj4 : w4.cell? ⟨ba, j, none⟩ = some (Ptr (d.ga j)) := q4.2.2.1; have bj4 : w4.cell? ⟨bb, j, none⟩ = some (Ptr (d.gr j)) := q4.2.2.2.1; clear q4; have x04 : w4.cell? ⟨w.heap.size, 3, none⟩ = some (.int .i64 num) := HT4.out.b10.cell 3; have x44 : w4.cell? ⟨w.heap.size, 4, none⟩ = some (.int .i64 tk) := HT4.out.b10.cell 4; have y04 : w4.cell? ⟨w.heap.size + 1, 0, none⟩ = some (.string ByteArray.empty) := HT4.out.b0.cell 0; have y14 : w4.cell? ⟨w.heap.size + 1, 1, none⟩ = some (.int .i64 num) := HT4.out.b0.cell 1)
        | (go_at_call 91; (refine (Tf.cancel_any (d.gr j) (d.vr j) (d.r j) (emb num) _ (dO_ref HT4.out.n11 HJ.out) (by omega)).mono ?_); rintro r w5 ⟨rfl, v5, ht5⟩; rw [HR.out.isSome HQ.out.1]; have HT5 := Lib.hid (HT4.out.at2 (dO_r HT4.out.n11 HJ.out ht5)); clear ht5; have q5 := dO_at HT5.out.n11 HJ.out HAV.out HBV.out HN.out; have a05 : w5.cell? ⟨g, 0, none⟩ = some (.slice (some ⟨ba, 0, none⟩) n ca) := q5.1; have b05 : w5.cell? ⟨g, 1, none⟩ = some (.slice (some ⟨bb, 0, none⟩) n cb) := q5.2.1; have aj5 : w5.cell? ⟨ba, j, none⟩ = some (Ptr (d.ga j)) := q5.2.2.1; have bj5 : w5.cell? ⟨bb, j, none⟩ = some (Ptr (d.gr j)) := q5.2.2.2.1; clear q5; have x05 : w5.cell? ⟨w.heap.size, 3, none⟩ = some (.int .i64 num) := HT5.out.b10.cell 3; have x45 : w5.cell? ⟨w.heap.size, 4, none⟩ = some (.int .i64 tk) := HT5.out.b10.cell 4; have y05 : w5.cell? ⟨w.heap.size + 1, 0, none⟩ = some (.string ByteArray.empty) := HT5.out.b0.cell 0; have y15 : w5.cell? ⟨w.heap.size + 1, 1, none⟩ = some (.int .i64 num) := HT5.out.b0.cell 1))
    go_wp2_with fail
    refine bodyPost_ret (v := .bool true) (by simp [results, Try.results51, go_sem, *]) rfl ⟨rfl, f, k, _, Ok_set HO.out (ok_del HQ.out num) (HR.out.cancel HQ.out.1 num) (key_del (HO.out.key j HJ.out)), HK.out, HY.out, by omega, HT5.out.dropL.dropL⟩
  · go_wp2_with (first
      | (go_at_call 54; (with_reducible refine (tick_d g f k d j _ H2.out.n11 HO.out HJ.out HK.out HY.out (by have := HNN.out; have := HK.out.lob; omega)).mono ?_); rintro r w4 ⟨rfl, k4, d4, ho4, _, hw4, hy4, hm4, ht4⟩; have HO4 := Lib.hid ho4; have HK4 := Lib.hid hw4; have HY4 := Lib.hid hy4; have HM4 := Lib.hid hm4; have HT4 := Lib.hid (H2.out.at2 ht4); clear ho4 hw4 hy4 hm4 ht4))
    refine bodyPost_ret (v := .bool true) (by simp [results, Try.results51, go_sem, *]) rfl ⟨rfl, f, k4, d4, HO4.out, HK4.out, HY4.out, by have := HM4.out; omega, HT4.out.dropL.dropL⟩
  · have HQ := Lib.hid (HO.out.ok j HJ.out)
    have HR := Lib.hid (HO.out.rel j HJ.out)
    have HQ1 := Lib.hid HQ.out.1
    have HQ3 := Lib.hid HQ.out.2.2
    have hll := HQ.out.2.1
    have hrl := (HR.out.rng HQ.out).1
    go_wp2_with fail
    go_region_held3 (fun w' => w'.cell? ⟨g, 0, none⟩ = some (.slice (some ⟨ba, 0, none⟩) n ca) ∧ w'.cell? ⟨g, 1, none⟩ = some (.slice (some ⟨bb, 0, none⟩) n cb) ∧ w'.cell? ⟨ba, j, none⟩ = some (Ptr (d.ga j)) ∧ w'.cell? ⟨bb, j, none⟩ = some (Ptr (d.gr j)) ∧ w'.cell? ⟨w.heap.size, 3, none⟩ = some (.int .i64 num) ∧ w'.cell? ⟨w.heap.size, 4, none⟩ = some (.int .i64 tk) ∧ w'.cell? ⟨w.heap.size + 1, 0, none⟩ = some (.string ByteArray.empty) ∧ w'.cell? ⟨w.heap.size + 1, 1, none⟩ = some (.int .i64 num)) (go_keep)
      (first
        | (go_at_call 101; (with_reducible refine (left_any (d.ga j) (d.mb j) (d.l j) num _ (dO_tb H2.out.drew.n11 HJ.out)).mono ?_); rintro r w4 ⟨rfl, rfl⟩))
    have H3 := Lib.hid (H2.out.drew)
    obtain ⟨W3, hW3⟩ : ∃ W, W = W2.drew := ⟨_, rfl⟩
    rw [← hW3] at H3 ⊢
    clear hW3 a0 b0 aj bj af bf hg hla hlb x0 x4 y0 y1
    have q := dO_at H3.out.n11 HJ.out HAV.out HBV.out HN.out; have a0 : W3.cell? ⟨g, 0, none⟩ = some (.slice (some ⟨ba, 0, none⟩) n ca) := q.1; have b0 : W3.cell? ⟨g, 1, none⟩ = some (.slice (some ⟨bb, 0, none⟩) n cb) := q.2.1; have aj : W3.cell? ⟨ba, j, none⟩ = some (Ptr (d.ga j)) := q.2.2.1; have bj : W3.cell? ⟨bb, j, none⟩ = some (Ptr (d.gr j)) := q.2.2.2.1; clear q
    have x0 : W3.cell? ⟨w.heap.size, 3, none⟩ = some (.int .i64 num) := H3.out.b10.cell 3; have x4 : W3.cell? ⟨w.heap.size, 4, none⟩ = some (.int .i64 tk) := H3.out.b10.cell 4; have y0 : W3.cell? ⟨w.heap.size + 1, 0, none⟩ = some (.string ByteArray.empty) := H3.out.b0.cell 0; have y1 : W3.cell? ⟨w.heap.size + 1, 1, none⟩ = some (.int .i64 num) := H3.out.b0.cell 1
    go_wp2_with fail
    go_region_held3 (fun w' => w'.cell? ⟨g, 0, none⟩ = some (.slice (some ⟨ba, 0, none⟩) n ca) ∧ w'.cell? ⟨g, 1, none⟩ = some (.slice (some ⟨bb, 0, none⟩) n cb) ∧ w'.cell? ⟨ba, j, none⟩ = some (Ptr (d.ga j)) ∧ w'.cell? ⟨bb, j, none⟩ = some (Ptr (d.gr j)) ∧ w'.cell? ⟨w.heap.size, 3, none⟩ = some (.int .i64 num) ∧ w'.cell? ⟨w.heap.size, 4, none⟩ = some (.int .i64 tk) ∧ w'.cell? ⟨w.heap.size + 1, 0, none⟩ = some (.string ByteArray.empty) ∧ w'.cell? ⟨w.heap.size + 1, 1, none⟩ = some (.int .i64 num)) (go_keep)
      (first
        | (go_at_call 95; (refine (Tf.left_any (d.gr j) (d.vr j) (d.r j) (emb num) _ (dO_ref H3.out.drew.n11 HJ.out) (by omega)).mono ?_); rintro r w5 ⟨rfl, hc5⟩; rw [HR.out.left HQ.out.1]; have HT5 := Lib.hid (H3.out.drew.kept hc5); clear hc5; have q5 := dO_at HT5.out.n11 HJ.out HAV.out HBV.out HN.out; have a05 : w5.cell? ⟨g, 0, none⟩ = some (.slice (some ⟨ba, 0, none⟩) n ca) := q5.1; have b05 : w5.cell? ⟨g, 1, none⟩ = some (.slice (some ⟨bb, 0, none⟩) n cb) := q5.2.1; have aj5 : w5.cell? ⟨ba, j, none⟩ = some (Ptr (d.ga j)) := q5.2.2.1; have bj5 : w5.cell? ⟨bb, j, none⟩ = some (Ptr (d.gr j)) := q5.2.2.2.1; clear q5; have x05 : w5.cell? ⟨w.heap.size, 3, none⟩ = some (.int .i64 num) := HT5.out.b10.cell 3; have x45 : w5.cell? ⟨w.heap.size, 4, none⟩ = some (.int .i64 tk) := HT5.out.b10.cell 4; have y05 : w5.cell? ⟨w.heap.size + 1, 0, none⟩ = some (.string ByteArray.empty) := HT5.out.b0.cell 0; have y15 : w5.cell? ⟨w.heap.size + 1, 1, none⟩ = some (.int .i64 num) := HT5.out.b0.cell 1))
    go_wp2_with fail
    refine bodyPost_ret (v := .bool true) (by simp [results, Try.results51, go_sem, *]) rfl ⟨rfl, f, k, d, HO.out, HK.out, HY.out, by omega, HT5.out.dropL.dropL⟩
  · go_wp2_with (first
      | (go_at_call 55; (with_reducible refine (armed_d g f k d j _ H2.out.n11 HO.out HJ.out HK.out HY.out (by have := HNN.out; have := HK.out.lob; omega)).mono ?_); rintro r w4 ⟨rfl, k4, d4, ho4, _, hw4, hy4, hm4, ht4⟩; have HO4 := Lib.hid ho4; have HK4 := Lib.hid hw4; have HY4 := Lib.hid hy4; have HM4 := Lib.hid hm4; have HT4 := Lib.hid (H2.out.at2 ht4); clear ho4 hw4 hy4 hm4 ht4))
    refine bodyPost_ret (v := .bool true) (by simp [results, Try.results51, go_sem, *]) rfl ⟨rfl, f, k4, d4, HO4.out, HK4.out, HY4.out, by have := HM4.out; omega, HT4.out.dropL.dropL⟩
  · have HC := Lib.hid (fun W h => clone_any (d.ga j) (d.mb j) (d.l j) W h)
    have HC2 := Lib.hid (fun W h => Tf.clone_any (d.gr j) (d.vr j) (d.r j) W h (by have := ((HO.out.rel j HJ.out).rng (HO.out.ok j HJ.out)).1; omega))
    obtain ⟨ij, hij, hzaj, hzbj, hzcj⟩ := info_parts Try.info108
    obtain ⟨is, his, hzas, hzbs, hzcs⟩ := info_parts Try.info95
    obtain ⟨ne1, ne2, ne3⟩ := dO_ne H2.out.n11 HAV.out HBV.out
    by_cases hlt : n < 4
    · have hd : decide ((n : Int) < 4) = true := by simp; omega
      have hd' : decide (n < 4) = true := by simp; omega
      go_wp2_with (first
        | (go_at_call 102; refine (HC.out _ (dO_tb H2.out.n11 HJ.out)).mono ?_; rintro r w4 ⟨g1, b1, rfl, ht4⟩; have HT4 : Hid (Turns w w4 (dO g f k d) (Hp.Own.both (Hp.Own.blk w.heap.size #[.int .i64 kd, .int .i64 at_, encStr nm, .int .i64 num, .int .i64 tk] 75) (Hp.Own.both (tbO g1 b1 (d.l j)) (dO g f k d)))) := Lib.hid (by (have h := (H2.out.at2 (dO_tout H2.out.n11 HJ.out (l' := d.l j) ht4)).dropL; rw [setT_self] at h; exact h)); have q4 := dO_at HT4.out.n11 HJ.out HAV.out HBV.out HN.out; have a04 : w4.cell? ⟨g, 0, none⟩ = some (.slice (some ⟨ba, 0, none⟩) n ca) := q4.1; have b04 : w4.cell? ⟨g, 1, none⟩ = some (.slice (some ⟨bb, 0, none⟩) n cb) := q4.2.1; have aj4 : w4.cell? ⟨ba, j, none⟩ = some (Ptr (d.ga j)) := q4.2.2.1; have bj4 : w4.cell? ⟨bb, j, none⟩ = some (Ptr (d.gr j)) := q4.2.2.2.1; clear q4)
        | (go_at_call 103; refine (HC2.out _ (dO_ref HT4.out.n11 HJ.out)).mono ?_; rintro r w6 ⟨g6, v6, rfl, ht6⟩; have HTR := Lib.hid (HT4.out.pushT ht6); have x46 : w6.cell? ⟨w.heap.size, 4, none⟩ = some (.int .i64 tk) := HTR.out.b10.cell 4; have HT6 := Lib.hid (HTR.out.at1 (Turns.refl HTR.out.n1).dropL); clear ht6; obtain ⟨a06, b06, aj6, bj6, af6, bf6, hg6, hla6, hlb6⟩ := dO_at HT6.out.n11 HJ.out HAV.out HBV.out HN.out; have HRA : Hid (w6.ownsRow 0 108 1 (.slice (some ⟨ba, 0, none⟩) n ca) n ((List.range n).map fun i => Ptr (d.ga i))) := Lib.hid (by (have h : (Hp.Own.row 108 1 d.av d.n ((List.range d.n).map fun i => Ptr (d.ga i))).holds w6 := dF_at (F := d.fam) HT6.out.n11 .ar rfl); (rw [HAV.out, HN.out] at h); exact h); have HRB : Hid (w6.ownsRow 0 95 1 (.slice (some ⟨bb, 0, none⟩) n cb) n ((List.range n).map fun i => Ptr (d.gr i))) := Lib.hid (by (have h : (Hp.Own.row 95 1 d.bv d.n ((List.range d.n).map fun i => Ptr (d.gr i))).holds w6 := dF_at (F := d.fam) HT6.out.n11 .br rfl); (rw [HBV.out, HN.out] at h); exact h))
        | ((at_builtin; refine wpList_app1 _ rfl (.tmp 151) (.tmp 153) 110 rfl 108 ij (.pointer none) 1 8 Try.underlying110 hij hzaj hzbj hzcj rfl (by decide) (.slice (some ⟨ba, 0, none⟩) n ca) n ((List.range n).map fun i => Ptr (d.ga i)) rfl _ _ _ rfl (by first | rfl | simp) HRA.out rfl (by simp [Value.oneCell']) (by simp only [maxLen]; omega) (by omega) ?_; intro g7 c7 w7 hc7 ht7; have HT7 := Lib.hid ht7; clear ht7); have HF7 := Lib.hid (HT6.out.at2 (dF_row (F := d.fam) HT6.out.n11 .ar (by show Hp.Own.row 108 1 d.av d.n ((List.range d.n).map fun i => Ptr (d.ga i)) = _; rw [HAV.out, HN.out]) HT7.out)); obtain ⟨a07, b07, af7, bf7, hg7⟩ := dF_see HF7.out.n11; rw [HAV.out, HN.out] at a07; rw [HBV.out, HN.out] at b07; have HF8 := Lib.hid (assoc (dF_a (unassoc HF7.out) (.slice (some ⟨g7, 0, none⟩) (n + 1) c7))); have HRB8 : Hid ((w7.setCell ⟨g, 0, none⟩ (.slice (some ⟨g7, 0, none⟩) (n + 1) c7)).ownsRow 0 95 1 (.slice (some ⟨bb, 0, none⟩) n cb) n ((List.range n).map fun i => Ptr (d.gr i))) := Lib.hid (by (have h := dF_at HF8.out.n11 .br (R := d.fam .br) (by simp [upd])); (have h : (Hp.Own.row 95 1 d.bv d.n ((List.range d.n).map fun i => Ptr (d.gr i))).holds (w7.setCell ⟨g, 0, none⟩ (.slice (some ⟨g7, 0, none⟩) (n + 1) c7)) := h); (rw [HBV.out, HN.out] at h); exact h))
        | ((at_builtin; refine wpList_app1 _ rfl (.tmp 161) (.tmp 163) 99 rfl 95 is (.pointer none) 1 8 Try.underlying99 his hzas hzbs hzcs rfl (by decide) (.slice (some ⟨bb, 0, none⟩) n cb) n ((List.range n).map fun i => Ptr (d.gr i)) rfl _ _ _ rfl (by first | rfl | simp) HRB8.out rfl (by simp [Value.oneCell']) (by simp only [maxLen]; omega) (by omega) ?_; intro g9 c9 w9 hc9 ht9; have HT9 := Lib.hid ht9; clear ht9); have HF9 := Lib.hid (HF8.out.at2 (dF_row HF8.out.n11 .br (by show d.fam .br = _; show Hp.Own.row 95 1 d.bv d.n ((List.range d.n).map fun i => Ptr (d.gr i)) = _; rw [HBV.out, HN.out]) HT9.out)); obtain ⟨a09, b09, af9, bf9, hg9⟩ := dF_see HF9.out.n11; rw [HBV.out, HN.out] at b09; have HF10 := Lib.hid (assoc (dF_b (unassoc HF9.out) (.slice (some ⟨g9, 0, none⟩) (n + 1) c9))).flip))
      refine bodyPost_ret (v := .bool true) (by simp [results, Try.results51, go_sem, *]) rfl ⟨rfl, f, k, _, Ok_place HO.out (to := n) (n' := n + 1) _ _ g1 b1 g6 v6 (fun j hj => by rw [HN.out]; omega) (by omega) (by omega) (HO.out.ok j HJ.out) (HO.out.rel j HJ.out) (HO.out.key j HJ.out), HK.out, HY.out, by omega, dO_place (d := d) (to := n) (n' := n + 1) HF10.out ?_ ?_ (fun j => by simp [upd]) (fun j => by simp [upd]) (fun j hj => by rw [HN.out]; omega) (by omega)⟩
      · rw [ptr_add]
        simp [upd]
      · rw [ptr_add]
        simp [upd]
    · have hd : decide ((n : Int) < 4) = false := by simp; omega
      have hd' : decide (n < 4) = false := by simp; omega
      obtain rfl : n = 4 := by omega
      go_wp2_with (first
        | (go_at_call 102; refine (HC.out _ (dO_tb H2.out.n11 HJ.out)).mono ?_; rintro r w4 ⟨g1, b1, rfl, ht4⟩; have HT4 : Hid (Turns w w4 (dO g f k d) (Hp.Own.both (Hp.Own.blk w.heap.size #[.int .i64 kd, .int .i64 at_, encStr nm, .int .i64 num, .int .i64 tk] 75) (Hp.Own.both (tbO g1 b1 (d.l j)) (dO g f k d)))) := Lib.hid (by (have h := (H2.out.at2 (dO_tout H2.out.n11 HJ.out (l' := d.l j) ht4)).dropL; rw [setT_self] at h; exact h)); have q4 := dO_at HT4.out.n11 HJ.out HAV.out HBV.out HN.out; have a04 : w4.cell? ⟨g, 0, none⟩ = some (.slice (some ⟨ba, 0, none⟩) 4 ca) := q4.1; have b04 : w4.cell? ⟨g, 1, none⟩ = some (.slice (some ⟨bb, 0, none⟩) 4 cb) := q4.2.1; have aj4 : w4.cell? ⟨ba, j, none⟩ = some (Ptr (d.ga j)) := q4.2.2.1; have bj4 : w4.cell? ⟨bb, j, none⟩ = some (Ptr (d.gr j)) := q4.2.2.2.1; clear q4)
        | (go_at_call 103; refine (HC2.out _ (dO_ref HT4.out.n11 HJ.out)).mono ?_; rintro r w6 ⟨g6, v6, rfl, ht6⟩; have HTR := Lib.hid (HT4.out.pushT ht6); have x46 : w6.cell? ⟨w.heap.size, 4, none⟩ = some (.int .i64 tk) := HTR.out.b10.cell 4; have HT6 := Lib.hid (HTR.out.at1 (Turns.refl HTR.out.n1).dropL); clear ht6; obtain ⟨a06, b06, aj6, bj6, af6, bf6, hg6, hla6, hlb6⟩ := dO_at HT6.out.n11 HJ.out HAV.out HBV.out HN.out; have HRA : Hid (w6.ownsRow 0 108 1 (.slice (some ⟨ba, 0, none⟩) 4 ca) 4 ((List.range 4).map fun i => Ptr (d.ga i))) := Lib.hid (by (have h : (Hp.Own.row 108 1 d.av d.n ((List.range d.n).map fun i => Ptr (d.ga i))).holds w6 := dF_at (F := d.fam) HT6.out.n11 .ar rfl); (rw [HAV.out, HN.out] at h); exact h); have HRB : Hid (w6.ownsRow 0 95 1 (.slice (some ⟨bb, 0, none⟩) 4 cb) 4 ((List.range 4).map fun i => Ptr (d.gr i))) := Lib.hid (by (have h : (Hp.Own.row 95 1 d.bv d.n ((List.range d.n).map fun i => Ptr (d.gr i))).holds w6 := dF_at (F := d.fam) HT6.out.n11 .br rfl); (rw [HBV.out, HN.out] at h); exact h))
        | (go_at_call 53; (with_reducible refine (among_lit tk 4 4 rfl _ (by omega) (by omega)).mono ?_); rintro r w2 ⟨jt, hjt, rfl, rfl⟩; obtain ⟨pa, fa⟩ := row_at HRA.out jt (range_at (fun i => Ptr (d.ga i)) hjt); obtain ⟨pb, fb⟩ := row_at HRB.out jt (range_at (fun i => Ptr (d.gr i)) hjt)))
      have HG1 := Lib.hid (Turns.row_set HRA.out jt (Ptr g1))
      have HG2 : Hid (Turns w (w2.setCell ⟨ba, jt, none⟩ (Ptr g1)) (dO g f k d) (Hp.Own.both (rO g6 v6 (d.r j)) (Hp.Own.both (tbO g1 b1 (d.l j)) (dF g f k d.av d.bv (upd d.fam .ar (Hp.Own.row 108 1 (.slice (some ⟨ba, 0, none⟩) 4 ca) 4 (((List.range 4).map fun i => Ptr (d.ga i)).set jt (Ptr g1)))))))) :=
        Lib.hid (HT6.out.at2 (dF_row HT6.out.n11 .ar (by show Hp.Own.row 108 1 d.av d.n ((List.range d.n).map fun i => Ptr (d.ga i)) = _; rw [HAV.out, HN.out]) HG1.out))
      have HRB2 : Hid ((w2.setCell ⟨ba, jt, none⟩ (Ptr g1)).ownsRow 0 95 1 (.slice (some ⟨bb, 0, none⟩) 4 cb) 4 ((List.range 4).map fun i => Ptr (d.gr i))) := Lib.hid (by
        have h := dF_at HG2.out.n11 .br (R := d.fam .br) (by simp [upd])
        have h : (Hp.Own.row 95 1 d.bv d.n ((List.range d.n).map fun i => Ptr (d.gr i))).holds (w2.setCell ⟨ba, jt, none⟩ (Ptr g1)) := h
        rw [HBV.out, HN.out] at h
        exact h)
      have HG3 : Hid (Turns w ((w2.setCell ⟨ba, jt, none⟩ (Ptr g1)).setCell ⟨bb, jt, none⟩ (Ptr g6)) (dO g f k d) (Hp.Own.both (tbO g1 b1 (d.l j)) (Hp.Own.both (rO g6 v6 (d.r j)) (dF g f k d.av d.bv (upd (upd d.fam .ar (Hp.Own.row 108 1 (.slice (some ⟨ba, 0, none⟩) 4 ca) 4 (((List.range 4).map fun i => Ptr (d.ga i)).set jt (Ptr g1)))) .br (Hp.Own.row 95 1 (.slice (some ⟨bb, 0, none⟩) 4 cb) 4 (((List.range 4).map fun i => Ptr (d.gr i)).set jt (Ptr g6)))))))) :=
        Lib.hid (HG2.out.at2 (dF_row HG2.out.n11 .br (by show d.fam .br = _; show Hp.Own.row 95 1 d.bv d.n ((List.range d.n).map fun i => Ptr (d.gr i)) = _; rw [HBV.out, HN.out]) (Turns.row_set HRB2.out jt (Ptr g6)))).flip
      refine bodyPost_ret (v := .bool true) (by simp [results, Try.results51, go_sem, *]) rfl ⟨rfl, f, k, _, Ok_place HO.out (to := jt) (n' := 4) d.av d.bv g1 b1 g6 v6 (fun i hi => by rw [HN.out]) (by omega) (by omega) (HO.out.ok j HJ.out) (HO.out.rel j HJ.out) (HO.out.key j HJ.out), HK.out, HY.out, by omega, dO_place (d := d) (to := jt) (n' := 4) HG3.out ?_ ?_ (fun j => by simp [upd]) (fun j => by simp [upd]) (fun i hi => by rw [HN.out]) hjt⟩
      · rw [ptr_put, HAV.out, HN.out]
        simp [upd]
      · rw [ptr_put, HBV.out, HN.out]
        simp [upd]
  · go_wp2_with (first
      | (go_at_call 56; (with_reducible refine (write_any 115 g d.av d.bv f k _ (dO_bo H2.out.n11) HK.out HY.out (by have := HNN.out; omega)).mono ?_); rintro r w4 ⟨rfl, k', hm, hw', hy', ht4⟩; have HT4 := Lib.hid (H2.out.at2 (dO_bk H2.out.n11 ht4)); have HK4 := Lib.hid hw'; have HY4 := Lib.hid hy'; have HM4 := Lib.hid hm; clear ht4 hw' hy' hm))
    refine bodyPost_ret (v := .bool true) (by simp [results, Try.results51, go_sem, *]) rfl ⟨rfl, k'.M, k', d, HO.out, HK4.out, HY4.out, by have := HM4.out; omega, HT4.out.dropL.dropL⟩
end Go.Proofs.Ytmpkjfengfgagaa.Ti
