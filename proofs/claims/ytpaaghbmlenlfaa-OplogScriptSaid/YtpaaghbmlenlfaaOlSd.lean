/- The law's kept lists of entries: write. -/
import Derived.Test.YtpaaghbmlenlfaaOlSc
namespace Go.Proofs.Ytpaaghbmlenlfaa.Ol
open Go.Hp.M7
open Go.RowKit Go.Hp
attribute [local go_sem] min2_lean min_two max2_lean max_two
set_option linter.unusedSimpArgs false
set_option linter.unusedVariables false
set_option maxRecDepth 100000
set_option maxHeartbeats 4000000 in
theorem write_any (g : Nat) (av bv : Value) (f : Nat) (k : KM) (w : World) (h : (bO g av bv f k).holds w) (hw : k.Wf f k.M) (hg : Oky k) (hN : 2 * k.M - f ≤ 8796093022208) :
    Calls Try.prog 43 #[.pointer (some ⟨g, 2, none⟩)] w fun e w' => e = .returned (.bool true) ∧ ∃ k' : KM, k'.M = 2 * k.M - f ∧ k'.Wf k'.M k'.M ∧ Oky k' ∧ Turns w w' (bO g av bv f k) (bO g av bv k'.M k') := by
  obtain ⟨ij, hij, hzaj, hzbj, hzcj⟩ := info_parts Try.info51
  obtain ⟨is, his, hzas, hzbs, hzcs⟩ := info_parts Try.info52
  obtain ⟨M, hM⟩ : ∃ M, k.M = M := ⟨_, rfl⟩
  have hfM : f ≤ M := by have := hw.lob; omega
  obtain ⟨Ao, co, hov⟩ := row_slice (KM.outs h.2.1)
  obtain ⟨Aw, cw, hwv⟩ := row_slice (KM.wants h.2.1)
  rw [hM] at hov hwv hN
  have HHO := Lib.hid (holds_any g av bv f f k.M k w h hw hg.okk (by omega))
  have H0 := Lib.hid (Turns.refl h)
  have HW := Lib.hid hw
  have HG := Lib.hid hg
  have HOV := Lib.hid hov
  have HWV := Lib.hid hwv
  have HM := Lib.hid hM
  clear h hw hg hov hwv hM
  go_enter Try.func43, Try.ntmps43
  go_wp2_with (first
    | (go_at_call 41; (with_reducible refine HHO.out.mono ?_); rintro r w1 ⟨rfl, hc1⟩; have HT1 := Lib.hid (H0.out.kept hc1); clear hc1; obtain ⟨b2, b3, b4, f4, hgl⟩ := bO_at HT1.out.now HM.out HOV.out HWV.out))
  go_quiet (fail)
  go_wp2_with fail
  go_loopw [6] (fun x6 wr => ∃ (i : Nat) (φ : Nat → List Value), x6 = .int .i64 i ∧ f ≤ i ∧ i ≤ M ∧ (k.wx φ).Wf f M ∧ Oky (k.wx φ) ∧ Turns w wr (bO g av bv f k) (bO g av bv f (k.wx φ))) (fun x6 _ => M - (intOf x6).toNat)
  case atStart =>
    refine ⟨f, k.xs, rfl, Nat.le_refl _, hfM, ?_, HG.out, ?_⟩
    · have := HW.out
      rw [HM.out] at this
      exact this
    · exact HT1.out.kept ((Chg.refl _ _).drewN _)
  case round =>
    clear b2 b3 b4 f4 hgl HHO HT1 H0
    obtain ⟨i, φ, rfl, hfi, hiM, hwf, hok, ht⟩ := hrel
    have HWF := Lib.hid hwf
    have HOK := Lib.hid hok
    have HT := Lib.hid ht
    clear hwf hok ht
    by_cases hlt : i < M
    ·
      --[[ a
      have hd : decide ((i : Int) < (M : Int)) = true := by simp; omega
      have hd' : decide (i < M) = true := by simp; omega
      have hfr : k.fr i = true := by
        have := HWF.out.fr i
        have h2 : (k.wx φ).fr i = k.fr i := rfl
        rw [← h2, this, decide_eq_true_eq]
        exact ⟨hfi, hlt⟩
      obtain ⟨n, hn⟩ : ∃ n, k.len i = n := ⟨_, rfl⟩
      have hnb : n ≤ 900000 := by
        have := (HOK.out i (by show i < k.M; rw [HM.out]; exact hlt)).2
        rw [show (k.wx φ).fr i = true from hfr, if_pos rfl, show (k.wx φ).len i = n from hn] at this
        exact this
      have HNN := Lib.hid hn
      clear hn
      obtain ⟨b2, b3, b4, f4, hgl⟩ := bO_at HT.out.now HM.out HOV.out HWV.out
      obtain ⟨go, co', gw, cw', e1, e2, c0, c1⟩ := KM.at_ HT.out.n1 (i := i) (by show i < k.M; rw [HM.out]; exact hlt)
      rw [show (k.wx φ).M = M from HM.out] at e1 e2
      obtain ⟨rfl, _, rfl⟩ := Value.slice.inj (HOV.out.symm.trans e1)
      obtain ⟨rfl, _, rfl⟩ := Value.slice.inj (HWV.out.symm.trans e2)
      obtain ⟨X, cx, hX⟩ := (KM.reads HT.out.n1 HWF.out (i := i) (by show i < k.M; rw [HM.out]; exact hlt)).1.len
      obtain ⟨Y, cy, hY⟩ := (KM.reads HT.out.n1 HWF.out (i := i) (by show i < k.M; rw [HM.out]; exact hlt)).2.len
      rw [show (k.wx φ).len i = n from HNN.out] at hX hY
      have HX := Lib.hid (show k.out i = _ from hX)
      have HY := Lib.hid (show k.want i = _ from hY)
      rw [hX] at c0
      clear hX hY c1 e1 e2
      go_wp2_with fail
      go_loopw [36] (fun x36 wr => ∃ (j : Nat) (φ : Nat → List Value), x36 = .int .i64 j ∧ j ≤ n ∧ (k.wx φ).Wf f M ∧ Oky (k.wx φ) ∧ Turns w wr (bO g av bv f k) (bO g av bv f (k.wx φ))) (fun x36 _ => n - (intOf x36).toNat)
      case atStart => exact ⟨0, φ, rfl, Nat.zero_le _, HWF.out, HOK.out, HT.out⟩
      case round =>
        clear HT HOK HWF c0 b2 b3 b4 f4 hgl
        obtain ⟨j, φ, rfl, hjn, hwf, hok, ht⟩ := hrel
        have HWF := Lib.hid hwf
        have HOK := Lib.hid hok
        have HT := Lib.hid ht
        clear hwf hok ht
        by_cases hlj : j < n
        · have hd2 : decide ((j : Int) < (n : Int)) = true := by simp; omega
          have hd3 : decide (j < n) = true := by simp; omega
          have hj0 : (0 : Int) ≤ (j : Int) := Int.natCast_nonneg _
          have hj1 : (j : Int) < (n : Int) := by omega
          obtain ⟨b2, b3, b4, f4, hgl⟩ := bO_at HT.out.now HM.out HOV.out HWV.out
          obtain ⟨go', co', gw', cw', e1, e2, c0, c1⟩ := KM.at_ HT.out.n1 (i := i) (by show i < k.M; rw [HM.out]; exact hlt)
          rw [show (k.wx φ).M = M from HM.out] at e1 e2
          obtain ⟨e1', _, rfl⟩ := Value.slice.inj (HOV.out.symm.trans e1)
          obtain ⟨e2', _, rfl⟩ := Value.slice.inj (HWV.out.symm.trans e2)
          simp only [Option.some.injEq, Addr.mk.injEq, and_true] at e1' e2'
          subst e1' e2'
          obtain ⟨bo, cc, bw, cd, a1, a2, r1, r2, fb1, fb2, n3, n4, n5⟩ := KM.apart HT.out.n1 (i := i) hfr (show 0 < k.len i by rw [HNN.out]; omega)
          have n1 : bo ≠ g := fun e => HT.out.now.2.2 bo e fb1
          have n2 : bw ≠ g := fun e => HT.out.now.2.2 bw e fb2
          obtain ⟨m4, m4'⟩ := n4 _ _ _ e2
          obtain ⟨m5, m5'⟩ := n5 _ _ _ e1
          rw [show (k.wx φ).len i = n from HNN.out] at a1 a2 r1 r2
          rw [a1] at c0
          rw [a2] at c1
          have HA1 := Lib.hid a1
          have HA2 := Lib.hid a2
          obtain ⟨l, hl⟩ := (HOK.out i (by show i < k.M; rw [HM.out]; exact hlt)).1
          have HL := Lib.hid hl
          rw [hl] at r1 r2
          have hll : l.length = n := by have := r1.1; rw [flat_len] at this; omega
          obtain ⟨e, he⟩ : ∃ e, l[j]? = some e := ⟨l[j]'(by omega), List.getElem?_eq_getElem _⟩
          obtain ⟨⟨p0, p1, p2, p3, p4, p5, p6⟩, pf, hlo⟩ := row_en r1 he
          have pf0 := pf 0 (by omega)
          have pf1 := pf 1 (by omega)
          have pf2 := pf 2 (by omega)
          have pf3 := pf 3 (by omega)
          have pf4 := pf 4 (by omega)
          have pf5 := pf 5 (by omega)
          have pf6 := pf 6 (by omega)
          rw [Nat.add_zero] at pf0
          obtain ⟨ec, en, ek, em, et, eu, eo⟩ := e
          have HR1 := Lib.hid r1
          have HLL := Lib.hid hll
          have HMK := Lib.hid (fun W => mark_any i W (by omega))
          have hmw : (markE i).cells.toArray = #[.int .i64 (-7), .int .i64 (-1 - (i : Int)), .int .i64 0, .string ByteArray.empty, .string ByteArray.empty, .int .i64 0, .int .i64 0] := rfl
          rw [hmw] at HMK
          clear n4 n5 e1 e2 r1 r2 fb1 fb2 pf he hl hmw
          go_wp2_with fail
          go_region_held3 (fun w' => w'.cell? ⟨g, 2, none⟩ = some (.slice (some ⟨go, 0, none⟩) M co) ∧ w'.cell? ⟨go, i, none⟩ = some (.slice (some ⟨bo, 0, none⟩) n cc)) (go_keep)
            (first | (go_at_call 60; (with_reducible refine (HMK.out _).mono ?_); rintro r w8 ⟨rfl, rfl⟩))
          have HT9 : Hid (Turns w (((((((((wr.setCell ⟨bo, j * 7, none⟩ (.int .i64 (-7))).setCell ⟨bo, j * 7 + 1, none⟩ (.int .i64 (-1 - (i : Int)))).setCell ⟨bo, j * 7 + 2, none⟩ (.int .i64 0)).setCell ⟨bo, j * 7 + 3, none⟩ (.string ByteArray.empty)).setCell ⟨bo, j * 7 + 4, none⟩ (.string ByteArray.empty)).setCell ⟨bo, j * 7 + 5, none⟩ (.int .i64 0)).setCell ⟨bo, j * 7 + 6, none⟩ (.int .i64 0)).alloc (.cells #[.int .i64 (-7), .int .i64 (-1 - (i : Int)), .int .i64 0, .string ByteArray.empty, .string ByteArray.empty, .int .i64 0, .int .i64 0] 51)).drew) (bO g av bv f k) (Hp.Own.both (Hp.Own.blk g #[av, bv, k.ov, k.wv, .int .i64 (f : Nat)] 78) (Hp.Own.fam (upd ((k.wx φ).fam 52 51) (.o i) (Hp.Own.row 51 7 ((k.wx φ).out i) ((k.wx φ).len i) (flat (l.set j (markE i)))))))) := Lib.hid (((HT.out.at1 (KM.putO HT.out.n1 hfr (by
            rw [HA1.out, show (k.wx φ).len i = n from HNN.out, HL.out]
            exact row_put HR1.out j (markE i) (by have := HLL.out; omega)))).alloc _).drew)
          obtain ⟨W9, hW9⟩ : ∃ W, W = ((((((((wr.setCell ⟨bo, j * 7, none⟩ (.int .i64 (-7))).setCell ⟨bo, j * 7 + 1, none⟩ (.int .i64 (-1 - (i : Int)))).setCell ⟨bo, j * 7 + 2, none⟩ (.int .i64 0)).setCell ⟨bo, j * 7 + 3, none⟩ (.string ByteArray.empty)).setCell ⟨bo, j * 7 + 4, none⟩ (.string ByteArray.empty)).setCell ⟨bo, j * 7 + 5, none⟩ (.int .i64 0)).setCell ⟨bo, j * 7 + 6, none⟩ (.int .i64 0)).alloc (.cells #[.int .i64 (-7), .int .i64 (-1 - (i : Int)), .int .i64 0, .string ByteArray.empty, .string ByteArray.empty, .int .i64 0, .int .i64 0] 51)).drew := ⟨_, rfl⟩
          rw [← hW9] at HT9 ⊢
          clear hW9 p0 p1 p2 p3 p4 p5 p6 pf0 pf1 pf2 pf3 pf4 pf5 pf6 b2 b3 b4 f4 hgl c0 c1 hlo HR1
          clear ec en ek em et eu eo
          have hgl : g < W9.heap.size := HT9.out.b0.lt
          have b3 : W9.cell? ⟨g, 3, none⟩ = some (.slice (some ⟨gw, 0, none⟩) M cw) := by have h := HT9.out.b0.cell 3; rw [HWV.out] at h; exact h
          have c1 : W9.cell? ⟨gw, i, none⟩ = some (.slice (some ⟨bw, 0, none⟩) n cd) := fam_wants (k := k.wx φ) (SE := 52) (E := 51) HT9.out.n1 rfl HM.out HWV.out hlt HA2.out
          have r2 : W9.ownsRow 0 51 7 (.slice (some ⟨bw, 0, none⟩) n cd) n (flat l) := by
            have h := HT9.out.n1.1 (.c i)
            have h : (Hp.Own.row 51 7 ((k.wx φ).want i) ((k.wx φ).len i) ((k.wx φ).xs i)).holds W9 := by simpa only [upd, reduceCtorEq, if_false, KM.fam, show (k.wx φ).fr i = true from hfr, if_true] using h
            rw [HA2.out, show (k.wx φ).len i = n from HNN.out, HL.out] at h
            exact h
          have HR2 := Lib.hid r2
          obtain ⟨e, he⟩ : ∃ e, l[j]? = some e := ⟨l[j]'(by omega), List.getElem?_eq_getElem _⟩
          obtain ⟨⟨p0, p1, p2, p3, p4, p5, p6⟩, pf, hlo⟩ := row_en r2 he
          have pf0 := pf 0 (by omega)
          have pf1 := pf 1 (by omega)
          have pf2 := pf 2 (by omega)
          have pf3 := pf 3 (by omega)
          have pf4 := pf 4 (by omega)
          have pf5 := pf 5 (by omega)
          have pf6 := pf 6 (by omega)
          rw [Nat.add_zero] at pf0
          obtain ⟨ec, en, ek, em, et, eu, eo⟩ := e
          clear r2 pf he
          go_wp2_with fail
          go_region_held3 (fun w' => w'.cell? ⟨g, 3, none⟩ = some (.slice (some ⟨gw, 0, none⟩) M cw) ∧ w'.cell? ⟨gw, i, none⟩ = some (.slice (some ⟨bw, 0, none⟩) n cd)) (go_keep)
            (first | (go_at_call 60; (with_reducible refine (HMK.out _).mono ?_); rintro r w8 ⟨rfl, rfl⟩))
          have HT10 : Hid (Turns w (((((((((W9.setCell ⟨bw, j * 7, none⟩ (.int .i64 (-7))).setCell ⟨bw, j * 7 + 1, none⟩ (.int .i64 (-1 - (i : Int)))).setCell ⟨bw, j * 7 + 2, none⟩ (.int .i64 0)).setCell ⟨bw, j * 7 + 3, none⟩ (.string ByteArray.empty)).setCell ⟨bw, j * 7 + 4, none⟩ (.string ByteArray.empty)).setCell ⟨bw, j * 7 + 5, none⟩ (.int .i64 0)).setCell ⟨bw, j * 7 + 6, none⟩ (.int .i64 0)).alloc (.cells #[.int .i64 (-7), .int .i64 (-1 - (i : Int)), .int .i64 0, .string ByteArray.empty, .string ByteArray.empty, .int .i64 0, .int .i64 0] 51)).drew) (bO g av bv f k) (bO g av bv f ((k.wx φ).put i (flat (l.set j (markE i)))))) := Lib.hid (((HT9.out.at1 (KM.putC HT9.out.n1 hfr (by
            rw [HA2.out, show (k.wx φ).len i = n from HNN.out, HL.out]
            exact row_put HR2.out j (markE i) (by have := HLL.out; omega)))).alloc _).drew)
          obtain ⟨W10, hW10⟩ : ∃ W, W = ((((((((W9.setCell ⟨bw, j * 7, none⟩ (.int .i64 (-7))).setCell ⟨bw, j * 7 + 1, none⟩ (.int .i64 (-1 - (i : Int)))).setCell ⟨bw, j * 7 + 2, none⟩ (.int .i64 0)).setCell ⟨bw, j * 7 + 3, none⟩ (.string ByteArray.empty)).setCell ⟨bw, j * 7 + 4, none⟩ (.string ByteArray.empty)).setCell ⟨bw, j * 7 + 5, none⟩ (.int .i64 0)).setCell ⟨bw, j * 7 + 6, none⟩ (.int .i64 0)).alloc (.cells #[.int .i64 (-7), .int .i64 (-1 - (i : Int)), .int .i64 0, .string ByteArray.empty, .string ByteArray.empty, .int .i64 0, .int .i64 0] 51)).drew := ⟨_, rfl⟩
          rw [← hW10] at HT10 ⊢
          clear hW10 p0 p1 p2 p3 p4 p5 p6 pf0 pf1 pf2 pf3 pf4 pf5 pf6 b3 hgl c1 hlo HR2
          go_wp2_with fail
          go_roundw
          case rel => exact ⟨j + 1, _, by simp, by omega, HWF.out.put hfr _, HOK.out.put i ⟨_, rfl⟩, HT10.out⟩
          case measure => simp [intOf]; omega
        · have hd2 : decide ((j : Int) < (n : Int)) = false := by simp; omega
          have hd3 : decide (j < n) = false := by simp; omega
          go_wp2_with fail
          go_roundw
          case rel => exact ⟨i + 1, φ, by simp, by omega, by omega, HWF.out, HOK.out, HT.out⟩
          case measure => simp [intOf]; omega
      --]] a
    · have hd : decide ((i : Int) < (M : Int)) = false := by simp; omega
      have hd' : decide (i < M) = false := by simp; omega
      go_wp2_with fail
      go_loopw [8] (fun x8 wr => ∃ (i : Nat) (k2 : KM), x8 = .int .i64 i ∧ f ≤ i ∧ i ≤ M ∧ k2.M = M + (i - f) ∧ k2.Wf i M ∧ Oky k2 ∧ Turns w wr (bO g av bv f k) (bO g av bv f k2)) (fun x8 _ => M - (intOf x8).toNat)
      case atStart => exact ⟨f, k.wx φ, rfl, Nat.le_refl _, hfM, by rw [show (k.wx φ).M = M from HM.out]; omega, HWF.out, HOK.out, HT.out⟩
      case round =>
        clear HT HOK HWF HOV HWV HG HW hd hd' hiM hfi
        obtain ⟨i, k2, rfl, hfi, hiM, hm2, hwf, hok, ht⟩ := hrel
        obtain ⟨M2, hM2⟩ : ∃ M2, k2.M = M2 := ⟨_, rfl⟩
        have HWF := Lib.hid hwf
        have HOK := Lib.hid hok
        have HT := Lib.hid ht
        have HM2 := Lib.hid hM2
        have hm2' : M2 = M + (i - f) := hM2.symm.trans hm2
        obtain ⟨Ao, co, hov⟩ := row_slice (KM.outs ht.now.2.1)
        obtain ⟨Aw, cw, hwv⟩ := row_slice (KM.wants ht.now.2.1)
        rw [hM2] at hov hwv
        obtain ⟨b2, b3, b4, f4, hgl⟩ := bO_at ht.now hM2 hov hwv
        clear hwf hok ht hm2 hM2
        by_cases hlt : i < M
        · have hd : decide ((i : Int) < (M : Int)) = true := by simp; omega
          have hd' : decide (i < M) = true := by simp; omega
          have hfr : k2.fr i = true := by
            rw [HWF.out.fr, decide_eq_true_eq]
            exact ⟨Nat.le_refl _, hlt⟩
          have hi2 : i < k2.M := by rw [HM2.out]; omega
          obtain ⟨hgx, hnb⟩ := HOK.out i hi2
          rw [if_pos hfr] at hnb
          obtain ⟨go, co', gw, cw', e1, e2, c0, c1⟩ := KM.at_ HT.out.n1 hi2
          obtain ⟨s1, s2⟩ := KM.reads HT.out.n1 HWF.out hi2
          obtain ⟨X, cx, hX⟩ := s1.len
          obtain ⟨Y, cy, hY⟩ := s2.len
          have ht0 := HT.out.at1 (KM.take k2 hfr HT.out.n1)
          rw [hX] at c0 ht0
          rw [hY] at c1 s2
          rw [HM2.out] at e1 e2
          obtain ⟨rfl, _, rfl⟩ := Value.slice.inj (hov.symm.trans e1)
          obtain ⟨rfl, _, rfl⟩ := Value.slice.inj (hwv.symm.trans e2)
          have HX := Lib.hid hX
          have HY := Lib.hid hY
          have HOV := Lib.hid hov
          have HWV := Lib.hid hwv
          obtain ⟨n, hn⟩ : ∃ n, k2.len i = n := ⟨_, rfl⟩
          obtain ⟨xs, hxs⟩ : ∃ xs, k2.xs i = xs := ⟨_, rfl⟩
          rw [hn] at c0 c1 ht0 s2 hnb
          rw [hxs] at hgx ht0 s2
          have HT0 := Lib.hid ht0
          have HS2 := Lib.hid s2
          have HGX := Lib.hid hgx
          have HNN := Lib.hid hn
          have HXS := Lib.hid hxs
          have HXN := Lib.hid (show k2.out i = .slice X n cx from by rw [hX, hn])
          clear s1 s2 hX hY hov hwv e1 e2 hn hxs hgx ht0 hi2
          have hM2b : M2 ≤ 8796093022208 := by omega
          have HMK := Lib.hid (fun W => mark_any i W (by omega))
          have hmw : (markE i).cells.toArray = #[.int .i64 (-7), .int .i64 (-1 - (i : Int)), .int .i64 0, .string ByteArray.empty, .string ByteArray.empty, .int .i64 0, .int .i64 0] := rfl
          rw [hmw] at HMK
          clear hmw
          have hi3 : i < M2 := by omega
          have HMM := Lib.hid hm2'
          clear hm2'
          go_wp2_with fail
          go_region_law (first
            | (refine step_copyM _ rfl (.const (.slice none 0 0)) (.tmp 81) 52 rfl 51 ij (.agg En.zero.cells.toArray) 7 72 Try.underlying52 hij hzaj hzbj hzcj rfl (by decide) rfl (.slice Y n cy) n xs rfl HS2.out HGX.out.one (by simp only [maxLen]; omega) (by omega) ?_; intro A6 c6 w6 ht6; have HT6 := Lib.hid ht6; clear ht6; have HF6 := Lib.hid (HT0.out.at1 (Turns.famE HT0.out.n1 .z (O := Hp.Own.emp) (by simp [upd, KM.fam]) HT6.out.drewl)); have b26 : w6.cell? ⟨g, 2, none⟩ = some (.slice (some ⟨go, 0, none⟩) M2 co) := (by have h := HF6.out.b0.cell 2; rw [HOV.out] at h; exact h); have c06 := fam_outs (k := k2) (SE := 52) (E := 51) HF6.out.n1 rfl HM2.out HOV.out hi3 HXN.out))
          all_goals
            go_wp2_with fail
            have HF0 : Hid (Turns w w6 (bO g av bv f k) (Hp.Own.both (Hp.Own.blk g #[av, bv, k2.ov, k2.wv, .int .i64 (f : Nat)] 78) (Hp.Own.fam (k2.mid 52 51 i (Hp.M7.Own.preM 51 (.slice X n cx) n xs (.slice X n cx) n (xs ++ [])) (Hp.Own.row 51 7 (.slice A6 n c6) n (xs ++ [])))))) := by
              rw [List.append_nil]
              exact HF6
            go_loopw [9, 10, 83] (fun x9 x10 x83 wr => ∃ (q m : Nat) (X' : Option Addr) (cx' : Nat) (Z' : Option Addr) (cz' : Nat) (ts : List Value), x83 = .int .i64 q ∧ q ≤ 70 ∧ m = n + q ∧ x9 = .slice X' m cx' ∧ x10 = .slice Z' m cz' ∧ Gd (xs ++ ts) ∧
              Turns w wr (bO g av bv f k) (Hp.Own.both (Hp.Own.blk g #[av, bv, k2.ov, k2.wv, .int .i64 (f : Nat)] 78) (Hp.Own.fam (k2.mid 52 51 i (Hp.M7.Own.preM 51 (.slice X n cx) n xs (.slice X' m cx') m (xs ++ ts)) (Hp.Own.row 51 7 (.slice Z' m cz') m (xs ++ ts)))))) (fun _ _ x83 _ => 70 - (intOf x83).toNat)
            case atStart => exact ⟨0, n, X, cx, A6, c6, [], rfl, by omega, rfl, rfl, rfl, by rw [List.append_nil]; exact HGX.out, HF0.out⟩
            case round =>
              clear HF0 HF6 HT6 b26 c06 c0 c1 b2 b3 b4 f4
              obtain ⟨q, m, X', cx', Z', cz', ts, rfl, hq, hm, rfl, rfl, hgt, ht⟩ := hrel
              have HGT := Lib.hid hgt
              have HMM2 := Lib.hid hm
              have hmb : m ≤ 900070 := by omega
              have HTa := Lib.hid ht
              clear hgt ht hm
              by_cases hlq : q < 70
              ·
                --[[ b
                have hd2 : decide ((q : Int) < 70) = true := by simp; omega
                have hd3 : decide (q < 70) = true := by simp; omega
                go_wp2_with (first
                  | (go_at_call 60; (with_reducible refine (HMK.out _).mono ?_); rintro r w6' ⟨rfl, rfl⟩; have HTb := Lib.hid (HTa.out.alloc (.cells #[.int .i64 (-7), .int .i64 (-1 - (i : Int)), .int .i64 0, .string ByteArray.empty, .string ByteArray.empty, .int .i64 0, .int .i64 0] 51)); clear HTa; have HTa := HTb; clear HTb)
                  | (at_builtin; refine wpList_appKM _ rfl (.tmp 85) (.tmp 88) 52 rfl 51 ij (.agg En.zero.cells.toArray) 72 Try.underlying52 hij hzaj hzbj hzcj rfl (.slice X' m cx') m (xs ++ ts) rfl _ _ _ rfl (by first | rfl | simp) (Own.preM_row (KM.mid_hx HTa.out.n1)) rfl (by exact (markE i).one) (by simp only [maxLen]; omega) (by omega) ?_; intro g7 c7 w7 hc7 ht7 hs7 hn7; have HT7 := Lib.hid ht7; have HS7 := Lib.hid hs7; have HN7 := Lib.hid hn7; clear ht7 hs7 hn7; have HTb := Lib.hid (HTa.out.at1 (KM.mid_tx HTa.out.n1 (Turns.preM (KM.mid_hx HTa.out.n1) HT7.out HS7.out (by rcases HN7.out with h | h; exact Or.inl h; exact Or.inr ⟨_, rfl, h⟩)))); clear HTa; have HTa := HTb; clear HTb)
                  | (at_builtin; refine wpList_appKM _ rfl (.tmp 90) (.tmp 93) 52 rfl 51 ij (.agg En.zero.cells.toArray) 72 Try.underlying52 hij hzaj hzbj hzcj rfl (.slice Z' m cz') m (xs ++ ts) rfl _ _ _ rfl (by first | rfl | simp) (KM.mid_hz HTa.out.n1) rfl (by exact (markE i).one) (by simp only [maxLen]; omega) (by omega) ?_; intro g8 c8 w8 hc8 ht8 hs8 hn8; have HT8 := Lib.hid ht8; have HS8 := Lib.hid hs8; have HN8 := Lib.hid hn8; clear ht8 hs8 hn8; have HTb := Lib.hid (HTa.out.at1 (KM.mid_tz HTa.out.n1 HT8.out)); clear HTa; have HTa := HTb; clear HTb))
                go_roundw
                case rel =>
                  refine ⟨q + 1, m + 1, _, _, _, _, ts ++ (markE i).cells, by simp, by omega, by have := HMM2.out; omega, rfl, rfl, by rw [← List.append_assoc]; exact HGT.out.snoc _, ?_⟩
                  have h := HTa.out
                  rw [List.append_assoc] at h
                  exact h
                case measure => simp [intOf]; omega
                --]] b
              · have hd2 : decide ((q : Int) < 70) = false := by simp; omega
                have hd3 : decide (q < 70) = false := by simp; omega
                --[[ c
                obtain ⟨b0, b1, b2, b3, b4, f0, f1, f2, f3, f4, hgl⟩ := HTa.out.b0.five
                rw [HOV.out] at b2
                rw [HWV.out] at b3
                have HOH : Hid (wr.ownsRow 0 52 1 (.slice (some ⟨go, 0, none⟩) M2 co) M2 ((List.range M2).map k2.out)) := Lib.hid (by
                  have h := HTa.out.n1.1 .outs
                  rw [KM.mid_outs, HM2.out, HOV.out] at h
                  exact h)
                go_wp2_with (first
                  | ((at_builtin; refine wpList_app1W _ rfl (.tmp 100) (.tmp 102) 74 rfl 52 is (.slice none 0 0) 24 Try.underlying74 his hzas hzbs hzcs rfl (.slice (some ⟨go, 0, none⟩) M2 co) M2 ((List.range M2).map k2.out) rfl _ _ _ rfl (by first | rfl | simp) HOH.out rfl (by simp only [maxLen]; omega) (by omega) ?_; intro g4 c4 w4 hc4 ht4; have HT4 := Lib.hid ht4; clear ht4); have HF4 := Lib.hid (HTa.out.at1 (Turns.famE HTa.out.n1 .outs (by rw [KM.mid_outs, HM2.out, HOV.out]) HT4.out)); clear b0 b1 b2 b3 b4 f0 f1 f2 f3 f4 hgl; obtain ⟨b0, b1, b2, b3, b4, f0, f1, f2, f3, f4, hgl⟩ := HF4.out.b0.five; rw [HOV.out] at b2; rw [HWV.out] at b3; have HF5 := Lib.hid (HF4.out.put0 2 (.slice (some ⟨g4, 0, none⟩) (M2 + 1) c4)); have HWH : Hid ((w4.setCell ⟨g, 2, none⟩ (.slice (some ⟨g4, 0, none⟩) (M2 + 1) c4)).ownsRow 0 52 1 (.slice (some ⟨gw, 0, none⟩) M2 cw) M2 ((List.range M2).map k2.want)) := Lib.hid (by (have h := HF5.out.n1.1 .wants; rw [KM.mid_wants2, HM2.out, HWV.out] at h; exact h)))
                  | ((at_builtin; refine wpList_app1W _ rfl (.tmp 110) (.tmp 112) 74 rfl 52 is (.slice none 0 0) 24 Try.underlying74 his hzas hzbs hzcs rfl (.slice (some ⟨gw, 0, none⟩) M2 cw) M2 ((List.range M2).map k2.want) rfl _ _ _ rfl (by first | rfl | simp) HWH.out rfl (by simp only [maxLen]; omega) (by omega) ?_; intro g7 c7 w7 hc7 ht7; have HT7 := Lib.hid ht7; clear ht7); have HF7 := Lib.hid (HF5.out.at1 (Turns.famE HF5.out.n1 .wants (by rw [KM.mid_wants2, HM2.out, HWV.out]) HT7.out)); clear b0 b1 b2 b3 b4 f0 f1 f2 f3 f4 hgl; obtain ⟨b0, b1, b2, b3, b4, f0, f1, f2, f3, f4, hgl⟩ := HF7.out.b0.five; have HF8 := Lib.hid (HF7.out.put0 3 (.slice (some ⟨g7, 0, none⟩) (M2 + 1) c7))))
                all_goals
                  refine ⟨⟨i + 1, k2.grow i (.slice (some ⟨g4, 0, none⟩) (M2 + 1) c4) (.slice (some ⟨g7, 0, none⟩) (M2 + 1) c7) (.slice X' m cx') (.slice Z' m cz') m (xs ++ ts), by simp, by omega, by omega, ?_, HWF.out.grow hlt _ _ _ _ _ _, HOK.out.grow HWF.out i _ _ _ _ HGT.out (by omega), ?_⟩, by simp [intOf]; omega⟩
                  · show k2.M + 1 = M + (i + 1 - f)
                    rw [HM2.out, HMM.out]
                    omega
                  · exact HF8.out.at1 (KM.close k2 hfr (HWF.out.no (Nat.le_refl _)) HXN.out HNN.out HXS.out HM2.out HF8.out.n1)
                --]] c
        · have hiM' : i = M := by omega
          have hd : decide ((i : Int) < (M : Int)) = false := by simp; omega
          have hd' : decide (i < M) = false := by simp; omega
          have HOV := Lib.hid hov
          have HWV := Lib.hid hwv
          clear hov hwv
          have hT2 : Turns w (wr.setCell ⟨g, 4, none⟩ (.int .i64 (M2 : Nat))) (bO g av bv f k) (bO g av bv M2 k2) := HT.out.put0 4 (.int .i64 (M2 : Nat))
          have HH2 := Lib.hid (holds_any g av bv M2 i M k2 _ hT2.now HWF.out HOK.out.okk (by rw [HM2.out]; omega))
          have hfin : Hid (∃ k' : KM, k'.M = 2 * k.M - f ∧ k'.Wf k'.M k'.M ∧ Oky k' ∧ Turns w (wr.setCell ⟨g, 4, none⟩ (.int .i64 (M2 : Nat))) (bO g av bv f k) (bO g av bv k'.M k')) := Lib.hid (by
            refine ⟨k2, ?_, ?_, HOK.out, ?_⟩
            · rw [HM2.out, HM.out]
              omega
            · have h := HWF.out
              rw [hiM'] at h
              exact h.top
            · rw [HM2.out]
              exact hT2)
          clear hT2 hm2'
          go_wp2_with (first
            | (go_at_call 41; (with_reducible refine HH2.out.mono ?_); rintro r w9 ⟨rfl, hc9⟩))
          all_goals
            refine bodyPost_ret (v := .bool true) (by simp [results, Try.results43, go_sem, *]) rfl ⟨rfl, by obtain ⟨k', h1, h2, h3, h4⟩ := hfin.out; exact ⟨k', h1, h2, h3, h4.kept hc9⟩⟩
end Go.Proofs.Ytpaaghbmlenlfaa.Ol
