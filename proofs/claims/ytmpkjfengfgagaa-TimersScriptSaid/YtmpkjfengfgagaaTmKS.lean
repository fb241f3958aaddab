/- The law's desk: clone. -/
import Derived.Test.YtmpkjfengfgagaaTmJS
namespace Go.Proofs.Ytmpkjfengfgagaa.Ts
open Go.RowKit Go.Hp
attribute [local go_sem] min2_lean min_two max2_lean max_two
set_option linter.unusedSimpArgs false
set_option linter.unusedVariables false
set_option maxRecDepth 100000
open Tf
theorem Try.info71 : (Try.prog.info? 71).map (fun i => (i.zero, i.size, i.bytes)) = some (some (.pointer none), 1, 8) := by kernel_rfl
theorem Try.info95 : (Try.prog.info? 95).map (fun i => (i.zero, i.size, i.bytes)) = some (some (.pointer none), 1, 8) := by kernel_rfl
set_option maxHeartbeats 2000000 in
theorem desk_clone (g f : Nat) (k : KT) (d : DK) (j : Nat) (to : Int) (w : World) (h : (dO g f k d).holds w) (ho : d.Ok) (hj : j < d.n) :
    Calls Try.prog 97 #[.pointer (some ⟨g, 0, none⟩), .int .i64 j, .int .i64 to] w fun e w' => e = .returned (.bool true) ∧ ∃ d', d'.Ok ∧ Turns w w' (dO g f k d) (dO g f k d') := by
  obtain ⟨ij, hij, hzaj, hzbj, hzcj⟩ := info_parts Try.info71
  obtain ⟨is, his, hzas, hzbs, hzcs⟩ := info_parts Try.info95
  have HC := Lib.hid (clone_any (d.ga j) (d.mb j) (d.l j) w (dO_tb h hj))
  have hn4 := ho.n4
  have HO := Lib.hid ho
  obtain ⟨n, hn⟩ : ∃ n, d.n = n := ⟨_, rfl⟩
  obtain ⟨ba, ca, bb, cb, hav, hbv, a0, b0, aj, bj, af, bf, hg, hla, hlb⟩ := dO_see h hj
  rw [hav] at a0
  rw [hbv] at b0
  have HAV := Lib.hid hav
  have HBV := Lib.hid hbv
  have H0 := Lib.hid h
  have HN := Lib.hid hn
  have HJ := Lib.hid hj
  rw [hn] at a0 b0 hj hn4
  clear h ho hav hbv hn
  by_cases hlt : n < 4
  · have hd : decide ((n : Int) < 4) = true := by simp; omega
    have hd' : decide (n < 4) = true := by simp; omega
    go_enter Try.func97, Try.ntmps97
    go_wp2_with (first
      | (go_at_call 122; (with_reducible refine HC.out.mono ?_); rintro r w1 ⟨g1, b1, rfl, ht1⟩; have HT1 : Hid (Turns w w1 (dO g f k d) (Hp.Own.both (tbO g1 b1 (d.l j)) (dO g f k d))) := Lib.hid (by (have h := dO_tout H0.out HJ.out (l' := d.l j) ht1; rw [setT_self] at h; exact h)); clear ht1 a0 b0 aj bj af bf hg hla hlb; obtain ⟨a0, b0, aj, bj, af, bf, hg, hla, hlb⟩ := dO_at HT1.out.n1 HJ.out HAV.out HBV.out HN.out)
      | ((at_builtin; refine wpList_app1 _ rfl (.tmp 29) (.tmp 31) 94 rfl 71 ij (.pointer none) 1 8 Try.underlying94 hij hzaj hzbj hzcj rfl (by decide) (.slice (some ⟨ba, 0, none⟩) n ca) n ((List.range n).map fun i => Ptr (d.ga i)) rfl _ _ _ rfl (by first | rfl | simp) (by (have h : (Hp.Own.row 71 1 d.av d.n ((List.range d.n).map fun i => Ptr (d.ga i))).holds w1 := dF_at (F := d.fam) HT1.out.n1 .ar rfl); (rw [HAV.out, HN.out] at h); exact h) rfl (by simp [Value.oneCell']) (by simp only [maxLen]; omega) (by omega) ?_; intro g4 c4 w4 hc4 ht4; have HT4 := Lib.hid ht4; clear ht4); have HF4 := Lib.hid (HT1.out.at1 (dF_row (F := d.fam) HT1.out.n1 .ar (by show Hp.Own.row 71 1 d.av d.n ((List.range d.n).map fun i => Ptr (d.ga i)) = _; rw [HAV.out, HN.out]) HT4.out)); clear a0 b0 aj bj af bf hg hla hlb; obtain ⟨a0, b0, af, bf, hg⟩ := dF_see HF4.out.n1; rw [HAV.out, HN.out] at a0; rw [HBV.out, HN.out] at b0))
    have HF5 := Lib.hid (dF_a HF4.out (.slice (some ⟨g4, 0, none⟩) (n + 1) c4))
    obtain ⟨W5, hW5⟩ : ∃ W, W = w4.setCell ⟨g, 0, none⟩ (.slice (some ⟨g4, 0, none⟩) (n + 1) c4) := ⟨_, rfl⟩
    rw [← hW5] at HF5 ⊢
    clear hW5 a0 b0 af bf hg
    obtain ⟨a0, b0, af, bf, hg⟩ := dF_see HF5.out.n1
    rw [HBV.out, HN.out] at b0
    have hrb : W5.ownsRow 0 95 1 (.slice (some ⟨bb, 0, none⟩) n cb) n ((List.range n).map fun i => Ptr (d.gr i)) := by
      have h := dF_at HF5.out.n1 .br (R := d.fam .br) (by simp [upd])
      have h : (Hp.Own.row 95 1 d.bv d.n ((List.range d.n).map fun i => Ptr (d.gr i))).holds W5 := h
      rw [HBV.out, HN.out] at h
      exact h
    have bj := (row_at hrb j (range_at (fun i => Ptr (d.gr i)) hj)).1
    have hlb := (World.ownsRow.lt hrb bb rfl).2
    have hr5 : (rO (d.gr j) (d.vr j) (d.r j)).holds W5 := dF_at HF5.out.n1 (.r j) (by have := HJ.out; simp [upd, DK.fam, this])
    have HR := Lib.hid (Turns.refl hr5)
    have hrl := ((HO.out.rel j HJ.out).rng (HO.out.ok j HJ.out)).1
    clear hrb hr5
    go_region_law (first
      | (go_simp; go_at_call 103; (with_reducible refine (Tf.clone_any (d.gr j) (d.vr j) (d.r j) _ HR.out.drew.now (by omega)).mono ?_); rintro r w6 ⟨g6, v6, rfl, ht6⟩; have HF6 := Lib.hid (HF5.out.pushT ht6.drewl); clear ht6; have HRB : Hid (w6.ownsRow 0 95 1 (.slice (some ⟨bb, 0, none⟩) n cb) n ((List.range n).map fun i => Ptr (d.gr i))) := Lib.hid (by (have h := dF_at HF6.out.n11 .br (R := d.fam .br) (by simp [upd])); (have h : (Hp.Own.row 95 1 d.bv d.n ((List.range d.n).map fun i => Ptr (d.gr i))).holds w6 := h); (rw [HBV.out, HN.out] at h); exact h); obtain ⟨a06, b06, af6, bf6, hg6⟩ := dF_see HF6.out.n11; rw [HBV.out, HN.out] at b06)
      | ((refine step_app1 _ rfl (.tmp 39) (.tmp 48) 99 rfl 95 is (.pointer none) 8 Try.underlying99 his hzas hzbs hzcs rfl (.slice (some ⟨bb, 0, none⟩) n cb) n ((List.range n).map fun i => Ptr (d.gr i)) rfl _ _ _ rfl (by first | rfl | simp) HRB.out (by simp [Value.oneCell']) (by simp only [maxLen]; omega) (by omega) ?_; intro g7 c7 w7 hc7 ht7; have HT7 := Lib.hid ht7; clear ht7); have HF7 := Lib.hid (HF6.out.at2 (dF_row HF6.out.n11 .br (by show d.fam .br = _; show Hp.Own.row 95 1 d.bv d.n ((List.range d.n).map fun i => Ptr (d.gr i)) = _; rw [HBV.out, HN.out]) HT7.out)); obtain ⟨a07, b07, af7, bf7, hg7⟩ := dF_see HF7.out.n11; rw [HBV.out, HN.out] at b07))
    all_goals
      have HF8 := Lib.hid (assoc (dF_b (unassoc HF7.out) (.slice (some ⟨g7, 0, none⟩) (n + 1) c7))).flip
      go_wp2_with fail
      refine bodyPost_ret (v := .bool true) (by simp [results, Try.results97, go_sem, *]) rfl ⟨rfl, _, Ok_place HO.out (to := n) (n' := n + 1) _ _ g1 b1 g6 v6 (fun j hj => by rw [HN.out]; omega) (by omega) (by omega) (HO.out.ok j HJ.out) (HO.out.rel j HJ.out) (HO.out.key j HJ.out), dO_place (d := d) (to := n) (n' := n + 1) HF8.out ?_ ?_ (fun j => by simp [upd]) (fun j => by simp [upd]) (fun j hj => by rw [HN.out]; omega) (by omega)⟩
      · rw [ptr_add]
        simp [upd]
      · rw [ptr_add]
        simp [upd]
  · have hd : decide ((n : Int) < 4) = false := by simp; omega
    have hd' : decide (n < 4) = false := by simp; omega
    obtain rfl : n = 4 := by omega
    obtain ⟨ne1, ne2, ne3⟩ := dO_ne H0.out HAV.out HBV.out
    go_enter Try.func97, Try.ntmps97
    go_wp2_with (first
      | (go_at_call 122; (with_reducible refine HC.out.mono ?_); rintro r w1 ⟨g1, b1, rfl, ht1⟩; have HT1 : Hid (Turns w w1 (dO g f k d) (Hp.Own.both (tbO g1 b1 (d.l j)) (dO g f k d))) := Lib.hid (by (have h := dO_tout H0.out HJ.out (l' := d.l j) ht1; rw [setT_self] at h; exact h)); clear ht1 a0 b0 aj bj af bf hg hla hlb; obtain ⟨a0, b0, aj, bj, af, bf, hg, hla, hlb⟩ := dO_at HT1.out.n1 HJ.out HAV.out HBV.out HN.out)
      | (go_at_call 53; (with_reducible refine (among_lit to 4 4 rfl _ (by omega) (by omega)).mono ?_); rintro r w2 ⟨jt, hjt, rfl, rfl⟩)
      | (go_at_call 103; (with_reducible refine (Tf.clone_any (d.gr j) (d.vr j) (d.r j) _ (dO_ref HT1.out.n1 HJ.out) (by have := ((HO.out.rel j HJ.out).rng (HO.out.ok j HJ.out)).1; omega)).mono ?_); rintro r w6 ⟨g6, v6, rfl, ht6⟩; have HF6 := Lib.hid (HT1.out.pushT ht6); clear ht6 a0 b0 aj bj af bf hg hla hlb; obtain ⟨a0, b0, aj, bj, af, bf, hg, hla, hlb⟩ := dO_at HF6.out.n11 HJ.out HAV.out HBV.out HN.out; have HRA : Hid (w6.ownsRow 0 71 1 (.slice (some ⟨ba, 0, none⟩) 4 ca) 4 ((List.range 4).map fun i => Ptr (d.ga i))) := Lib.hid (by (have h : (Hp.Own.row 71 1 d.av d.n ((List.range d.n).map fun i => Ptr (d.ga i))).holds w6 := dF_at (F := d.fam) HF6.out.n11 .ar rfl); (rw [HAV.out, HN.out] at h); exact h); have HRB : Hid (w6.ownsRow 0 95 1 (.slice (some ⟨bb, 0, none⟩) 4 cb) 4 ((List.range 4).map fun i => Ptr (d.gr i))) := Lib.hid (by (have h : (Hp.Own.row 95 1 d.bv d.n ((List.range d.n).map fun i => Ptr (d.gr i))).holds w6 := dF_at (F := d.fam) HF6.out.n11 .br rfl); (rw [HBV.out, HN.out] at h); exact h); obtain ⟨pa, fa⟩ := row_at HRA.out jt (range_at (fun i => Ptr (d.ga i)) hjt); obtain ⟨pb, fb⟩ := row_at HRB.out jt (range_at (fun i => Ptr (d.gr i)) hjt)))
    have HG1 := Lib.hid (Turns.row_set HRA.out jt (Ptr g1))
    have HG2 : Hid (Turns w (w6.setCell ⟨ba, jt, none⟩ (Ptr g1)) (dO g f k d) (Hp.Own.both (rO g6 v6 (d.r j)) (Hp.Own.both (tbO g1 b1 (d.l j)) (dF g f k d.av d.bv (upd d.fam .ar (Hp.Own.row 71 1 (.slice (some ⟨ba, 0, none⟩) 4 ca) 4 (((List.range 4).map fun i => Ptr (d.ga i)).set jt (Ptr g1)))))))) :=
      Lib.hid (HF6.out.at2 (dF_row HF6.out.n11 .ar (by show Hp.Own.row 71 1 d.av d.n ((List.range d.n).map fun i => Ptr (d.ga i)) = _; rw [HAV.out, HN.out]) HG1.out))
    have HRB2 : Hid ((w6.setCell ⟨ba, jt, none⟩ (Ptr g1)).ownsRow 0 95 1 (.slice (some ⟨bb, 0, none⟩) 4 cb) 4 ((List.range 4).map fun i => Ptr (d.gr i))) := Lib.hid (by
      have h := dF_at HG2.out.n11 .br (R := d.fam .br) (by simp [upd])
      have h : (Hp.Own.row 95 1 d.bv d.n ((List.range d.n).map fun i => Ptr (d.gr i))).holds (w6.setCell ⟨ba, jt, none⟩ (Ptr g1)) := h
      rw [HBV.out, HN.out] at h
      exact h)
    have HG3 : Hid (Turns w ((w6.setCell ⟨ba, jt, none⟩ (Ptr g1)).setCell ⟨bb, jt, none⟩ (Ptr g6)) (dO g f k d) (Hp.Own.both (tbO g1 b1 (d.l j)) (Hp.Own.both (rO g6 v6 (d.r j)) (dF g f k d.av d.bv (upd (upd d.fam .ar (Hp.Own.row 71 1 (.slice (some ⟨ba, 0, none⟩) 4 ca) 4 (((List.range 4).map fun i => Ptr (d.ga i)).set jt (Ptr g1)))) .br (Hp.Own.row 95 1 (.slice (some ⟨bb, 0, none⟩) 4 cb) 4 (((List.range 4).map fun i => Ptr (d.gr i)).set jt (Ptr g6)))))))) :=
      Lib.hid (HG2.out.at2 (dF_row HG2.out.n11 .br (by show d.fam .br = _; show Hp.Own.row 95 1 d.bv d.n ((List.range d.n).map fun i => Ptr (d.gr i)) = _; rw [HBV.out, HN.out]) (Turns.row_set HRB2.out jt (Ptr g6)))).flip
    refine bodyPost_ret (v := .bool true) (by simp [results, Try.results97, go_sem, *]) rfl ⟨rfl, _, Ok_place HO.out (to := jt) (n' := 4) d.av d.bv g1 b1 g6 v6 (fun i hi => by rw [HN.out]) (by omega) (by omega) (HO.out.ok j HJ.out) (HO.out.rel j HJ.out) (HO.out.key j HJ.out), dO_place (d := d) (to := jt) (n' := 4) HG3.out ?_ ?_ (fun j => by simp [upd]) (fun j => by simp [upd]) (fun i hi => by rw [HN.out]) hjt⟩
    · rw [ptr_put, HAV.out, HN.out]
      simp [upd]
    · rw [ptr_put, HBV.out, HN.out]
      simp [upd]
end Go.Proofs.Ytmpkjfengfgagaa.Ts
