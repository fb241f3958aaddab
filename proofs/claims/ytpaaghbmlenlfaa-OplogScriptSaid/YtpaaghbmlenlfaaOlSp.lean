/- The law's desk: clone. -/
import Derived.Test.YtpaaghbmlenlfaaOlSn
namespace Go.Proofs.Ytpaaghbmlenlfaa.Ol
open Go.Hp.M7
open Go.RowKit Go.Hp
attribute [local go_sem] min2_lean min_two max2_lean max_two
set_option linter.unusedSimpArgs false
set_option linter.unusedVariables false
set_option maxRecDepth 100000
theorem Try.info44 : (Try.prog.info? 44).map (fun i => (i.zero, i.size, i.bytes)) = some (some (.pointer none), 1, 8) := by kernel_rfl
theorem Try.info59 : (Try.prog.info? 59).map (fun i => (i.zero, i.size, i.bytes)) = some (some (.pointer none), 1, 8) := by kernel_rfl
theorem assoc {w W : World} {O A B X : Hp.Own} (h : Turns w W O (Hp.Own.both (Hp.Own.both A B) X)) : Turns w W O (Hp.Own.both A (Hp.Own.both B X)) :=
  ⟨h.chg, ⟨h.now.1.1, ⟨h.now.1.2.1, h.now.2.1, fun b h1 h2 => h.now.2.2 b (Or.inr h1) h2⟩, fun b h1 h2 => h2.elim (fun h2 => h.now.1.2.2 b h1 h2) (fun h2 => h.now.2.2 b (Or.inl h1) h2)⟩, fun b hb => h.near b (by
    rcases hb with hb | hb | hb
    · exact Or.inl (Or.inl hb)
    · exact Or.inl (Or.inr hb)
    · exact Or.inr hb)⟩
theorem am_rng (i : Int) : ∃ jt : Nat, jt < 4 ∧ am i 4 = (jt : Int) := by
  have h1 := Int.tmod_lt_of_pos i (b := 4) (by omega)
  have h2 := Int.lt_tmod_of_pos i (b := 4) (by omega)
  unfold am
  split
  · exact ⟨(i.tmod 4 + 4).toNat, by omega, by omega⟩
  · exact ⟨(i.tmod 4).toNat, by omega, by omega⟩
set_option maxHeartbeats 2000000 in
theorem desk_clone (m g f : Nat) (k : KM) (d : DK) (j : Nat) (tq : Int) (w : World) (h : (dO m g f k d).holds w) (ho : DK.Ok m d) (hj : j < d.n) :
    Calls Try.prog 59 #[.pointer (some ⟨g, 0, none⟩), .int .i64 j, .int .i64 tq] w fun e w' => e = .returned (.bool true) ∧ ∃ d', DK.Ok m d' ∧ d.n ≤ d'.n ∧ Turns w w' (dO m g f k d) (dO m g f k d') := by
  obtain ⟨ij, hij, hzaj, hzbj, hzcj⟩ := info_parts Try.info44
  obtain ⟨is, his, hzas, hzbs, hzcs⟩ := info_parts Try.info59
  have HC := Lib.hid (pClone (d.ga j) (d.mb j) m (d.l j) w (dO_tb h hj))
  have hn4 := ho.n4
  have HO := Lib.hid ho
  have HRC := Lib.hid (fun W hW => rClone (d.gr j) m (d.vr j) (d.r j) W hW (by rw [← ho.rel j hj]; exact ho.ok j hj))
  obtain ⟨n, hn⟩ : ∃ n, d.n = n := ⟨_, rfl⟩
  obtain ⟨ba, ca, bb, cb, hav, hbv, a0, b0, aj, bj, af, bf, hg, hla, hlb⟩ := dO_see h hj
  rw [hav] at a0
  rw [hbv] at b0
  have HAV := Lib.hid hav
  have HBV := Lib.hid hbv
  have H0 := Lib.hid h
  have HN := Lib.hid hn
  have HJ := Lib.hid hj
  rw [hn] at a0 b0 hj hn4
  clear h ho hav hbv hn
  by_cases hlt : n < 4
  · have hd : decide ((n : Int) < 4) = true := by simp; omega
    have hd' : decide (n < 4) = true := by simp; omega
    go_enter Try.func59, Try.ntmps59
    go_wp2_with (first
      | (go_at_call 36; (with_reducible refine HC.out.mono ?_); rintro r w1 ⟨g1, b1, rfl, ht1⟩; have HT1 := Lib.hid ((Turns.refl H0.out).pushT ht1); clear ht1 a0 b0 aj bj af bf hg hla hlb; obtain ⟨a0, b0, aj, bj, af, bf, hg, hla, hlb⟩ := dO_at HT1.out.n1 HJ.out HAV.out HBV.out HN.out)
      | (go_at_call 31; (with_reducible refine (HRC.out _ (by exact dO_ref HT1.out.n1 HJ.out)).mono ?_); rintro r w2 ⟨g6, v6, rfl, ht2⟩; have HT2 := Lib.hid (HT1.out.pushT ht2); clear ht2 a0 b0 aj bj af bf hg hla hlb; obtain ⟨a0, b0, aj, bj, af, bf, hg, hla, hlb⟩ := dO_at HT2.out.n11 HJ.out HAV.out HBV.out HN.out)
      | ((at_builtin; refine wpList_app1 _ rfl (.tmp 37) (.tmp 39) 72 rfl 44 ij (.pointer none) 1 8 Try.underlying72 hij hzaj hzbj hzcj rfl (by decide) (.slice (some ⟨ba, 0, none⟩) n ca) n ((List.range n).map fun i => Ptr (d.ga i)) rfl _ _ _ rfl (by first | rfl | simp) (by (have h : (Hp.Own.row 44 1 d.av d.n ((List.range d.n).map fun i => Ptr (d.ga i))).holds w2 := dF_at (F := (d.fam m)) HT2.out.n11 .ar rfl); (rw [HAV.out, HN.out] at h); exact h) rfl (by simp [Value.oneCell']) (by simp only [maxLen]; omega) (by omega) ?_; intro g4 c4 w4 hc4 ht4; have HT4 := Lib.hid ht4; clear ht4); have HF4 := Lib.hid (HT2.out.at2 (dF_row (F := (d.fam m)) HT2.out.n11 .ar (by show Hp.Own.row 44 1 d.av d.n ((List.range d.n).map fun i => Ptr (d.ga i)) = _; rw [HAV.out, HN.out]) HT4.out)); clear a0 b0 aj bj af bf hg hla hlb; obtain ⟨a0, b0, af, bf, hg⟩ := dF_see HF4.out.n11; rw [HAV.out, HN.out] at a0; rw [HBV.out, HN.out] at b0; have HF5 := Lib.hid (dF_a (unassoc HF4.out) (.slice (some ⟨g4, 0, none⟩) (n + 1) c4)))
      | ((at_builtin; refine wpList_app1 _ rfl (.tmp 47) (.tmp 49) 73 rfl 59 is (.pointer none) 1 8 Try.underlying73 his hzas hzbs hzcs rfl (by decide) (.slice (some ⟨bb, 0, none⟩) n cb) n ((List.range n).map fun i => Ptr (d.gr i)) rfl _ _ _ rfl (by first | rfl | simp) (by (have h := dF_at HF5.out.n1 .br (R := (d.fam m) .br) (by simp [upd])); (have h : (Hp.Own.row 59 1 d.bv d.n ((List.range d.n).map fun i => Ptr (d.gr i))).holds (w4.setCell ⟨g, 0, none⟩ (.slice (some ⟨g4, 0, none⟩) (n + 1) c4)) := h); (rw [HBV.out, HN.out] at h); exact h) rfl (by simp [Value.oneCell']) (by simp only [maxLen]; omega) (by omega) ?_; intro g7 c7 w7 hc7 ht7; have HT7 := Lib.hid ht7; clear ht7); have HF7 := Lib.hid (HF5.out.at1 (dF_row HF5.out.n1 .br (by show (d.fam m) .br = _; show Hp.Own.row 59 1 d.bv d.n ((List.range d.n).map fun i => Ptr (d.gr i)) = _; rw [HBV.out, HN.out]) HT7.out)); clear a0 b0 af bf hg; obtain ⟨a07, b07, af7, bf7, hg7⟩ := dF_see HF7.out.n1; rw [HBV.out, HN.out] at b07))
    all_goals
      have HF8 := Lib.hid ((assoc (dF_b HF7.out (.slice (some ⟨g7, 0, none⟩) (n + 1) c7))).flip)
      refine bodyPost_ret (v := .bool true) (by simp [results, Try.results59, go_sem]) rfl ⟨rfl, _, Ok_place HO.out (tq := n) (n' := n + 1) _ _ g1 b1 g6 v6 (fun j hj => by rw [HN.out]; omega) (by omega) (by omega) (HO.out.ok j HJ.out) (HO.out.rel j HJ.out), (by show d.n ≤ n + 1; rw [HN.out]; omega), dO_place (d := d) (tq := n) (n' := n + 1) HF8.out ?_ ?_ (fun j => by simp [upd]) (fun j => by simp [upd]) (fun j hj => by rw [HN.out]; omega) (by omega)⟩
      · rw [ptr_add]
        simp [upd]
      · rw [ptr_add]
        simp [upd]
  · have hd : decide ((n : Int) < 4) = false := by simp; omega
    have hd' : decide (n < 4) = false := by simp; omega
    obtain rfl : n = 4 := by omega
    obtain ⟨ne1, ne2, ne3⟩ := dO_ne H0.out HAV.out HBV.out
    obtain ⟨jt, hjt, ham⟩ := am_rng tq
    have HAM : Hid (∀ W, Calls Try.prog 32 #[.int .i64 tq, .int .i64 4] W fun e w' => e = .returned (.int .i64 jt) ∧ w' = W) := Lib.hid (fun W => by
      have h := among_any tq 4 W (by omega) (by omega)
      have ham' : am tq ((4 : Nat) : Int) = (jt : Int) := ham
      rw [ham'] at h
      exact h)
    have hj0 : (0 : Int) ≤ (jt : Int) := Int.natCast_nonneg _
    have hj1 : (jt : Int) < 4 := by omega
    clear ham
    go_enter Try.func59, Try.ntmps59
    go_wp2_with (first
      | (go_at_call 36; (with_reducible refine HC.out.mono ?_); rintro r w1 ⟨g1, b1, rfl, ht1⟩; have HT1 := Lib.hid ((Turns.refl H0.out).pushT ht1); clear ht1 a0 b0 aj bj af bf hg hla hlb; obtain ⟨a0, b0, aj, bj, af, bf, hg, hla, hlb⟩ := dO_at HT1.out.n1 HJ.out HAV.out HBV.out HN.out)
      | (go_at_call 32; (with_reducible refine (HAM.out _).mono ?_); rintro r w2' ⟨rfl, hw2⟩; have hw2 := hw2.symm; subst hw2)
      | (go_at_call 31; (with_reducible refine (HRC.out _ (by exact dO_ref HT1.out.n1 HJ.out)).mono ?_); rintro r w6 ⟨g6, v6, rfl, ht6⟩; have HF6 := Lib.hid (HT1.out.pushT ht6); clear ht6 a0 b0 aj bj af bf hg hla hlb; obtain ⟨a0, b0, aj, bj, af, bf, hg, hla, hlb⟩ := dO_at HF6.out.n11 HJ.out HAV.out HBV.out HN.out; have HRA : Hid (w6.ownsRow 0 44 1 (.slice (some ⟨ba, 0, none⟩) 4 ca) 4 ((List.range 4).map fun i => Ptr (d.ga i))) := Lib.hid (by (have h : (Hp.Own.row 44 1 d.av d.n ((List.range d.n).map fun i => Ptr (d.ga i))).holds w6 := dF_at (F := (d.fam m)) HF6.out.n11 .ar rfl); (rw [HAV.out, HN.out] at h); exact h); have HRB : Hid (w6.ownsRow 0 59 1 (.slice (some ⟨bb, 0, none⟩) 4 cb) 4 ((List.range 4).map fun i => Ptr (d.gr i))) := Lib.hid (by (have h : (Hp.Own.row 59 1 d.bv d.n ((List.range d.n).map fun i => Ptr (d.gr i))).holds w6 := dF_at (F := (d.fam m)) HF6.out.n11 .br rfl); (rw [HBV.out, HN.out] at h); exact h); obtain ⟨pa, fa⟩ := row_at HRA.out jt (range_at (fun i => Ptr (d.ga i)) hjt); obtain ⟨pb, fb⟩ := row_at HRB.out jt (range_at (fun i => Ptr (d.gr i)) hjt)))
    have HG1 := Lib.hid (Turns.row_set HRA.out jt (Ptr g1))
    have HG2 : Hid (Turns w (w6.setCell ⟨ba, jt, none⟩ (Ptr g1)) (dO m g f k d) (Hp.Own.both (qO g6 m v6 (d.r j)) (Hp.Own.both (pO g1 b1 m (d.l j)) (dF g f k d.av d.bv (upd (d.fam m) .ar (Hp.Own.row 44 1 (.slice (some ⟨ba, 0, none⟩) 4 ca) 4 (((List.range 4).map fun i => Ptr (d.ga i)).set jt (Ptr g1)))))))) :=
      Lib.hid (HF6.out.at2 (dF_row HF6.out.n11 .ar (by show Hp.Own.row 44 1 d.av d.n ((List.range d.n).map fun i => Ptr (d.ga i)) = _; rw [HAV.out, HN.out]) HG1.out))
    have HRB2 : Hid ((w6.setCell ⟨ba, jt, none⟩ (Ptr g1)).ownsRow 0 59 1 (.slice (some ⟨bb, 0, none⟩) 4 cb) 4 ((List.range 4).map fun i => Ptr (d.gr i))) := Lib.hid (by
      have h := dF_at HG2.out.n11 .br (R := (d.fam m) .br) (by simp [upd])
      have h : (Hp.Own.row 59 1 d.bv d.n ((List.range d.n).map fun i => Ptr (d.gr i))).holds (w6.setCell ⟨ba, jt, none⟩ (Ptr g1)) := h
      rw [HBV.out, HN.out] at h
      exact h)
    have HG3 : Hid (Turns w ((w6.setCell ⟨ba, jt, none⟩ (Ptr g1)).setCell ⟨bb, jt, none⟩ (Ptr g6)) (dO m g f k d) (Hp.Own.both (pO g1 b1 m (d.l j)) (Hp.Own.both (qO g6 m v6 (d.r j)) (dF g f k d.av d.bv (upd (upd (d.fam m) .ar (Hp.Own.row 44 1 (.slice (some ⟨ba, 0, none⟩) 4 ca) 4 (((List.range 4).map fun i => Ptr (d.ga i)).set jt (Ptr g1)))) .br (Hp.Own.row 59 1 (.slice (some ⟨bb, 0, none⟩) 4 cb) 4 (((List.range 4).map fun i => Ptr (d.gr i)).set jt (Ptr g6)))))))) :=
      Lib.hid (HG2.out.at2 (dF_row HG2.out.n11 .br (by show (d.fam m) .br = _; show Hp.Own.row 59 1 d.bv d.n ((List.range d.n).map fun i => Ptr (d.gr i)) = _; rw [HBV.out, HN.out]) (Turns.row_set HRB2.out jt (Ptr g6)))).flip
    refine bodyPost_ret (v := .bool true) (by simp [results, Try.results59, go_sem]) rfl ⟨rfl, _, Ok_place HO.out (tq := jt) (n' := 4) d.av d.bv g1 b1 g6 v6 (fun i hi => by rw [HN.out]) (by omega) (by omega) (HO.out.ok j HJ.out) (HO.out.rel j HJ.out), (by show d.n ≤ 4; rw [HN.out]; omega), dO_place (d := d) (tq := jt) (n' := 4) HG3.out ?_ ?_ (fun j => by simp [upd]) (fun j => by simp [upd]) (fun i hi => by rw [HN.out]) hjt⟩
    · rw [ptr_put, HAV.out, HN.out]
      simp [upd]
    · rw [ptr_put, HBV.out, HN.out]
      simp [upd]
end Go.Proofs.Ytpaaghbmlenlfaa.Ol
