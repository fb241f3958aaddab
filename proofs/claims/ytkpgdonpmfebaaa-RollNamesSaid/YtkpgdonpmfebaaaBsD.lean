/- The law's kept lists of bytes: they are written all over, and grow. -/
import Derived.Test.YtkpgdonpmfebaaaBsC
import Derived.Test.YtkpgdonpmfebaaaKw
namespace Go.Proofs.Ytkpgdonpmfebaaa.Bt.Kb
open Go.RowKit Go.Hp
set_option linter.unusedSimpArgs false
set_option linter.unusedVariables false
set_option maxRecDepth 100000
attribute [local go_sem] min2_lean min_two max2_lean max_two
theorem bvx {v : Int} (h : 0 ≤ v ∧ v < 256) : (Value.int .u8 v) = bv (UInt8.ofNat v.toNat) := by
  unfold bv
  have : ((UInt8.ofNat v.toNat).toNat : Int) = v := by
    rw [UInt8.toNat_ofNat', Nat.mod_eq_of_lt (by omega)]
    omega
  rw [this]
theorem Gd.set {xs : List Value} (h : Gd xs) (j : Nat) {v : Int} (hv : 0 ≤ v ∧ v < 256) : Gd (xs.set j (.int .u8 v)) := by
  obtain ⟨zs, rfl⟩ := h
  exact ⟨zs.set j (UInt8.ofNat v.toNat), by rw [List.map_set, bvx hv]⟩
theorem Gd.snoc {xs : List Value} (h : Gd xs) {v : Int} (hv : 0 ≤ v ∧ v < 256) : Gd (xs ++ [.int .u8 v]) := by
  obtain ⟨zs, rfl⟩ := h
  exact ⟨zs ++ [UInt8.ofNat v.toNat], by rw [List.map_append, bvx hv]; rfl⟩
theorem upd_four {ι : Type} [DecidableEq ι] {F : ι → Hp.Own} {i j : ι} (hne : i ≠ j) (A B A' B' : Hp.Own) : upd (upd (upd (upd F i A) j B) i A') j B' = upd (upd F i A') j B' := by
  funext x
  unfold upd
  by_cases h1 : x = j
  · simp [h1]
  · by_cases h2 : x = i
    · simp [h1, h2, hne]
    · simp [h1, h2]
theorem Turns.world {w W W' : World} {O O' : Hp.Own} (h : Turns w W O O') (e : W = W') : Turns w W' O O' := e ▸ h
theorem holds_wx (k : KS) (f : Nat → List Value) (N d : Nat) (w : World) (h : (own (k.wx f) N d).holds w) (hd : d ≤ N) (hg : Okk (k.wx f) (N + d)) (hN : N + d ≤ 7036874417562) :
    Calls Try.prog 22 #[.pointer (some ⟨k.g, 0, none⟩)] w fun e w' => e = .returned (.bool true) ∧ Chg (fun _ => False) w w' := holds_any (k.wx f) N d w h hd hg hN
set_option maxHeartbeats 2000000 in
theorem spoil_any (k : KS) (N : Nat) (w : World) (h : (own k N 0).holds w) (hg : ∀ i, i < N → Gd (k.xs i) ∧ k.len i ≤ 140737488351232) (hN : N ≤ 3518437208781) :
    Calls Try.prog 23 #[.pointer (some ⟨k.g, 0, none⟩)] w fun e w' => e = .returned (.bool true) ∧ Chg (own k N 0).foot w w' := by
  obtain ⟨ij, hij, hzaj, hzbj, hzcj⟩ := info_parts Try.info5
  obtain ⟨is, his, hzas, hzbs, hzcs⟩ := info_parts Try.info38
  have HHO := Lib.hid (fun f W h1 (h2 : ∀ i, i < N → Gd (f i)) => holds_wx k f N 0 W h1 (Nat.zero_le _) (fun i hi => ⟨h2 i (by omega), Nat.le_trans (hg i (by omega)).2 (by decide)⟩) (by omega))
  have HLEN := Lib.hid (fun i hi => (hg i hi).2)
  have HG0 := Lib.hid (fun i hi => (hg i hi).1)
  obtain ⟨Ao, co, hov⟩ := row_slice (KS.outs h)
  obtain ⟨Aw, cw, hwv⟩ := row_slice (KS.wants h)
  rw [Nat.add_zero] at hov hwv
  have HOV := Lib.hid hov
  have HWV := Lib.hid hwv
  have H0 := Lib.hid h
  have H0x := Lib.hid (show (own (k.wx k.xs) N 0).holds w from h)
  clear h hg hov hwv
  go_enter Try.func23, Try.ntmps23
  have HT1 := Lib.hid (Turns.refl H0.out)
  have hb := (KS.box H0.out).cell 0
  rw [HOV.out] at hb
  simp only [List.getElem?_toArray, List.getElem?_cons_succ, List.getElem?_cons_zero] at hb
  go_wp2_with fail
  go_loopw [4] (fun x5 wr => ∃ (i : Nat) (f : Nat → List Value), x5 = .int .i64 i ∧ i ≤ N ∧ (∀ j, j < N → Gd (f j)) ∧ Turns w wr (own k N 0) (own (k.wx f) N 0)) (fun x5 _ => N - (intOf x5).toNat)
  case atStart => exact ⟨0, k.xs, rfl, Nat.zero_le _, HG0.out, HT1.out⟩
  case round =>
    obtain ⟨i, f, rfl, hin, hgf, ht⟩ := hrel
    have HGF := Lib.hid hgf
    have HT := Lib.hid ht
    clear hgf ht hb
    by_cases hlt : i < N
    · have hd : decide ((i : Int) < (N : Int)) = true := by simp; omega
      have hd' : decide (i < N) = true := by simp; omega
      have hln := HLEN.out i hlt
      obtain ⟨n, hn⟩ : ∃ n, k.len i = n := ⟨_, rfl⟩
      rw [hn] at hln
      have HNN := Lib.hid hn
      clear hn
      go_wp2_with fail
      go_loopw [5] (fun x6 wr => ∃ (j : Nat) (f : Nat → List Value), x6 = .int .i64 j ∧ j ≤ n ∧ (∀ j, j < N → Gd (f j)) ∧ Turns w wr (own k N 0) (own (k.wx f) N 0)) (fun x6 _ => n - (intOf x6).toNat)
      case atStart => exact ⟨0, f, rfl, Nat.zero_le _, HGF.out, HT.out⟩
      case round =>
        clear HT HGF
        obtain ⟨j, f, rfl, hjn, hgf, ht⟩ := hrel
        have HGF := Lib.hid hgf
        have HT := Lib.hid ht
        clear hgf ht
        obtain ⟨go, co', gw, cw', e1, e2, c0, c1⟩ := KS.at_ HT.out.now (i := i) (by omega)
        have e1' := HOV.out.symm.trans e1
        have e2' := HWV.out.symm.trans e2
        obtain ⟨rfl, hn1, rfl⟩ := Value.slice.inj e1'
        obtain ⟨rfl, hn2, rfl⟩ := Value.slice.inj e2'
        clear hn1 hn2
        have b0 : wr.cell? ⟨k.g, 0, none⟩ = some (.slice (some ⟨go, 0, none⟩) N co) := by have h := (KS.box HT.out.now).cell 0; rw [e1] at h; exact h
        have b1 : wr.cell? ⟨k.g, 1, none⟩ = some (.slice (some ⟨gw, 0, none⟩) N cw) := by have h := (KS.box HT.out.now).cell 1; rw [e2] at h; exact h
        by_cases hlj : j < n
        · have hd2 : decide ((j : Int) < (n : Int)) = true := by simp; omega
          have hd3 : decide (j < n) = true := by simp; omega
          obtain ⟨bo, cc, bw, cd, a1, a2, r1, r2, (n1 : bo ≠ k.g), (n2 : bw ≠ k.g), n3, n4, n5⟩ := KS.apart HT.out.now hlt (show 0 < (k.wx f).len i by rw [show (k.wx f).len i = n from HNN.out]; omega)
          have m4 := n4 _ _ _ e2
          have m5 := n5 _ _ _ e1
          have hmark := KS.mark HT.out.now hlt a1 a2 j
          have HMARK := Lib.hid hmark
          rw [show (k.wx f).len i = n from HNN.out] at a1 a2 r1 r2
          rw [a1] at c0
          rw [a2] at c1
          have hxl : j < ((k.wx f).xs i).length := by have := r1.1; omega
          obtain ⟨p1, p2⟩ := row_at r1 j (List.getElem?_eq_getElem hxl)
          obtain ⟨p3, p4⟩ := row_at r2 j (List.getElem?_eq_getElem hxl)
          generalize ((k.wx f).xs i)[j] = uu at *
          clear r1 r2 hxl n4 n5 e1 e2 e1' e2' hmark
          go_wp2_with fail
          go_roundw
          case rel =>
            refine ⟨j + 1, fun x => if x = i then (f i).set j (.int .u8 (((i : Int) * 7 + 1) % 256)) else f x, by simp, by omega, fun x hx => ?_, ?_⟩
            · show Gd (if x = i then _ else f x)
              by_cases hxi : x = i
              · rw [if_pos hxi]; exact (HGF.out i (by omega)).set _ (by omega)
              · rw [if_neg hxi]; exact HGF.out x hx
            · exact HT.out.trans (HMARK.out _)
          case measure => simp [intOf]; omega
        · have hd2 : decide ((j : Int) < (n : Int)) = false := by simp; omega
          have hd3 : decide (j < n) = false := by simp; omega
          obtain ⟨X, cx, hX⟩ := (KS.reads HT.out.now (Nat.zero_le _) (i := i) (by omega)).1.len
          rw [show (k.wx f).len i = n from HNN.out] at hX
          rw [hX] at c0
          clear e1 e2 e1' e2' hX
          go_wp2_with fail
          go_roundw
          case rel => exact ⟨i + 1, f, by simp, by omega, HGF.out, HT.out⟩
          case measure => simp [intOf]; omega
    · have hd : decide ((i : Int) < (N : Int)) = false := by simp; omega
      have hd' : decide (i < N) = false := by simp; omega
      go_wp2_with (first
        | (go_at_call 22; (with_reducible refine (HHO.out f _ HT.out.now HGF.out).mono ?_); rintro r w2 ⟨rfl, hc2⟩; have HT2 := Lib.hid (HT.out.kept hc2); clear hc2))
      have HB := Lib.hid HLEN.out
      go_loopw [7] (fun x7 wr => ∃ (d : Nat) (k' : KS), x7 = .int .i64 d ∧ d ≤ N ∧ k'.g = k.g ∧ (∀ i, i < N → k'.len i ≤ 140737488351232) ∧ Okk k' (N + d) ∧ Turns w wr (own k N 0) (own k' N d)) (fun x7 _ => N - (intOf x7).toNat)
      case atStart => exact ⟨0, k.wx f, rfl, Nat.zero_le _, rfl, HLEN.out, fun j hj => ⟨HGF.out j hj, Nat.le_trans (HLEN.out j hj) (by decide)⟩, HT2.out⟩
      case round =>
        clear HT2 HT HGF HG0 H0x
        obtain ⟨d, k', rfl, hdN, hkg, hkl, hok, ht⟩ := hrel
        have HKG := Lib.hid hkg
        have HKL := Lib.hid hkl
        have HOK := Lib.hid hok
        have HT := Lib.hid ht
        obtain ⟨Ao, co, hov⟩ := row_slice (KS.outs ht.now)
        obtain ⟨Aw, cw, hwv⟩ := row_slice (KS.wants ht.now)
        clear hkg hkl hok ht
        by_cases hlt : d < N
        · have hd : decide ((d : Int) < (N : Int)) = true := by simp; omega
          have hd' : decide (d < N) = true := by simp; omega
          obtain ⟨M, hM⟩ : ∃ M, N + d = M := ⟨_, rfl⟩
          have HM := Lib.hid hM
          have hdM : d < M := by omega
          have hMb : M ≤ 7036874417562 := by omega
          obtain ⟨n, hn⟩ : ∃ n, k'.len d = n := ⟨_, rfl⟩
          have hnb := HKL.out d hlt
          rw [hn] at hnb
          have HNN := Lib.hid hn
          obtain ⟨xs, hxs⟩ : ∃ xs, k'.xs d = xs := ⟨_, rfl⟩
          have hgx := (HOK.out d (by omega)).1
          rw [hxs] at hgx
          have HGX := Lib.hid hgx
          have HXS := Lib.hid hxs
          obtain ⟨go, co', gw, cw', e1, e2, c0, c1⟩ := KS.at_ HT.out.now (i := d) (by omega)
          have b0 : wr.cell? ⟨k.g, 0, none⟩ = some (.slice (some ⟨go, 0, none⟩) M co') := by have h := (KS.box HT.out.now).cell 0; rw [e1, HKG.out, hM] at h; exact h
          have b1 : wr.cell? ⟨k.g, 1, none⟩ = some (.slice (some ⟨gw, 0, none⟩) M cw') := by have h := (KS.box HT.out.now).cell 1; rw [e2, HKG.out, hM] at h; exact h
          obtain ⟨s1, s2⟩ := KS.reads HT.out.now (by omega) (i := d) (by omega)
          obtain ⟨X, cx, hX⟩ := s1.len
          obtain ⟨Y, cy, hY⟩ := s2.len
          rw [hn] at hX hY
          rw [hX] at c0
          rw [hY, hn, hxs] at s2
          rw [hY] at c1
          have hrow := HT.out.now.1 (.c d)
          simp only [KS.fam, if_pos (show d < N + d by omega)] at hrow
          have hYb := Own.lt _ hrow
          rw [hY] at hYb
          have HCO := Lib.hid (copied_src Y n cy xs wr s2 hYb HGX.out (by omega))
          have HX := Lib.hid hX
          rw [hM] at e1 e2
          have HE1 := Lib.hid e1
          have HE2 := Lib.hid e2
          clear s1 s2 hX hY hrow hYb hgx hn hxs hM hov hwv e1 e2
          go_wp2_with (first
            | (go_at_call 70; (with_reducible refine HCO.out.mono ?_); rintro r w6 ⟨Z, cz, rfl, ht6⟩; have HT6 := Lib.hid ht6; clear ht6))
          have HS0 : Hid (Turns w w6 (own k N 0) (Own.fam (upd (upd (k'.fam 34 38 5 N d) (.o d) (Own.pre 5 (.slice X n cx) n xs (.slice X (n + 0) cx) (n + 0) (xs ++ []))) (.c (N + d)) (Hp.Own.row 5 1 (.slice Z (n + 0) cz) (n + 0) (xs ++ []))))) := by
            have hF : k'.fam 34 38 5 N d (.o d) = Hp.Own.row 5 1 (.slice X n cx) n xs := by simp only [KS.fam, if_neg (Nat.lt_irrefl d), if_pos hlt]; rw [HX.out, HNN.out, HXS.out]
            have hr := HT.out.now.1 (.o d)
            rw [hF] at hr
            have t1 := Turns.famE HT.out.now (.o d) hF (Turns.pre_start hr)
            have t2 := Turns.famE t1.now (.c (N + d)) (O := Hp.Own.emp) (by simp [upd, KS.fam]) HT6.out
            rw [List.append_nil, Nat.add_zero]
            exact Lib.hid (HT.out.trans (t1.trans t2))
          go_loopw [8, 9, 10] (fun x8 x9 x10 wr => ∃ (j m : Nat) (X' : Option Addr) (cx' : Nat) (Z' : Option Addr) (cz' : Nat) (ts : List Value), x10 = .int .i64 j ∧ j ≤ 12 ∧ m = n + j ∧ x8 = .slice X' m cx' ∧ x9 = .slice Z' m cz' ∧ Gd (xs ++ ts) ∧
            Turns w wr (own k N 0) (Own.fam (upd (upd (k'.fam 34 38 5 N d) (.o d) (Own.pre 5 (.slice X n cx) n xs (.slice X' m cx') m (xs ++ ts))) (.c (N + d)) (Hp.Own.row 5 1 (.slice Z' m cz') m (xs ++ ts))))) (fun _ _ x10 _ => 12 - (intOf x10).toNat)
          case atStart => exact ⟨0, n, X, cx, Z, cz, [], rfl, by omega, rfl, rfl, rfl, by rw [List.append_nil]; exact HGX.out, HS0.out⟩
          case round =>
            clear HS0 HT6 HCO c0 c1 b0 b1
            obtain ⟨j, m, X', cx', Z', cz', ts, rfl, hj, hm, rfl, rfl, hgt, ht⟩ := hrel
            have HGT := Lib.hid hgt
            have HTJ := Lib.hid ht
            have HMM := Lib.hid hm
            have hmb : m ≤ 140737488351260 := by omega
            have hpre : (Own.pre 5 (.slice X n cx) n xs (.slice X' m cx') m (xs ++ ts)).holds wr := by
              have := ht.now.1 (.o d)
              simpa only [upd, reduceCtorEq, if_false, if_true] using this
            have HP := Lib.hid hpre
            have hro : (Hp.Own.row 5 1 (.slice Z' m cz') m (xs ++ ts)).holds wr := by
              have := ht.now.1 (.c (N + d))
              simpa only [upd, reduceCtorEq, if_false, if_true] using this
            clear hgt ht hm hpre
            by_cases hlj : j < 12
            · have hd2 : decide ((j : Int) < 12) = true := by simp; omega
              have hd3 : decide (j < 12) = true := by simp; omega
              have hdb : d ≤ 3518437208781 := by omega
              go_wp2_with (first
                | ((at_builtin; refine wpList_appK _ rfl (.tmp 85) (.tmp 90) 38 rfl 5 ij (.int .u8 0) 1 Try.underlying38 hij hzaj hzbj hzcj rfl (.slice X' m cx') m (xs ++ ts) rfl _ _ _ rfl (by first | rfl | simp) (Own.pre_row HP.out) (by simp [Value.oneCell']) (by simp only [maxLen]; omega) (by omega) ?_; intro g7 c7 w7 hc7 ht7 hs7 hn7; have HT7 := Lib.hid ht7; have HS7 := Lib.hid hs7; have HN7 := Lib.hid hn7; clear ht7 hs7 hn7); have HTP := Lib.hid (Turns.pre HP.out HT7.out HS7.out (by rcases HN7.out with h | h; exact Or.inl h; exact Or.inr ⟨_, rfl, h⟩)); have HF7 := Lib.hid (HTJ.out.trans (Turns.famE HTJ.out.now (.o d) (by simp only [upd, reduceCtorEq, if_false, if_true]) HTP.out)); have hrz : (Hp.Own.row 5 1 (.slice Z' m cz') m (xs ++ ts)).holds w7 := (by have := HF7.out.now.1 (.c (N + d)); simpa only [upd, reduceCtorEq, if_false, if_true] using this); have HRZ := Lib.hid hrz; clear hrz)
                | ((at_builtin; refine wpList_app1 _ rfl (.tmp 92) (.tmp 97) 38 rfl 5 ij (.int .u8 0) 1 1 Try.underlying38 hij hzaj hzbj hzcj rfl (by decide) (.slice Z' m cz') m (xs ++ ts) rfl _ _ _ rfl (by first | rfl | simp) HRZ.out rfl (by simp [Value.oneCell']) (by simp only [maxLen]; omega) (by omega) ?_; intro g8 c8 w8 hc8 ht8; have HT8 := Lib.hid ht8; clear ht8); have HF8 := Lib.hid (HF7.out.trans (Turns.famE HF7.out.now (.c (N + d)) (by simp only [upd, reduceCtorEq, if_false, if_true]) HT8.out))))
              go_roundw
              case rel =>
                refine ⟨j + 1, m + 1, _, _, _, _, ts ++ [.int .u8 (((d : Int) * 7 + 2) % 256)], by simp, by omega, by have := HMM.out; omega, rfl, rfl, by rw [← List.append_assoc]; exact HGT.out.snoc (by omega), ?_⟩
                have h := HF8.out
                rw [upd_four (by simp), List.append_assoc] at h
                exact h
              case measure => simp [intOf]; omega
            · have hd2 : decide ((j : Int) < 12) = false := by simp; omega
              have hd3 : decide (j < 12) = false := by simp; omega
              have hB : Blk wr k'.g #[k'.ov, k'.wv] 34 := HTJ.out.now.1 .box
              have HBX := Lib.hid hB
              have b0 : wr.cell? ⟨k.g, 0, none⟩ = some (.slice (some ⟨go, 0, none⟩) M co') := by have h := hB.cell 0; rw [HE1.out, HKG.out] at h; exact h
              have HOO : Hid (wr.ownsRow 0 38 1 (.slice (some ⟨go, 0, none⟩) M co') M ((List.range M).map k'.out)) := by
                have h : wr.ownsRow 0 38 1 k'.ov (N + d) ((List.range (N + d)).map k'.out) := HTJ.out.now.1 .outs
                rw [HE1.out, HM.out] at h
                exact Lib.hid h
              clear hB
              go_wp2_with (first
                | ((at_builtin; refine wpList_app1W _ rfl (.tmp 103) (.tmp 105) 32 rfl 38 is (.slice none 0 0) 24 Try.underlying32 his hzas hzbs hzcs rfl (.slice (some ⟨go, 0, none⟩) M co') M ((List.range M).map k'.out) rfl _ _ _ rfl (by first | rfl | simp) HOO.out rfl (by simp only [maxLen]; omega) (by omega) ?_; intro g7 c7 w7 hc7 ht7; have HT7 := Lib.hid ht7; clear ht7); have HF7 := Lib.hid (HTJ.out.trans (Turns.famE HTJ.out.now .outs (by show Hp.Own.row _ _ k'.ov (N + d) ((List.range (N + d)).map k'.out) = _; rw [HE1.out, HM.out]) HT7.out)); have hB7 : Blk w7 k'.g #[k'.ov, k'.wv] 34 := HF7.out.now.1 .box; have b07 : w7.cell? ⟨k.g, 0, none⟩ = some (.slice (some ⟨go, 0, none⟩) M co') := (by have h := hB7.cell 0; rw [HE1.out, HKG.out] at h; exact h); have b17 : w7.cell? ⟨k.g, 1, none⟩ = some (.slice (some ⟨gw, 0, none⟩) M cw') := (by have h := hB7.cell 1; rw [HE2.out, HKG.out] at h; exact h); have f07 : w7.frozen? ⟨k.g, 0, none⟩ = false := (by have h := hB7.frozen 0; rw [HKG.out] at h; exact h); have hl7 : k.g < w7.heap.size := (by have h := hB7.lt; rw [HKG.out] at h; exact h); have HFB := Lib.hid (Turns.world (HF7.out.trans (Turns.famE HF7.out.now .box (O := Hp.Own.blk k'.g #[k'.ov, k'.wv] 34) rfl (Turns.blk_set hB7 0 (.slice (some ⟨g7, 0, none⟩) (M + 1) c7)))) (show w7.setCell ⟨k'.g, 0, none⟩ (.slice (some ⟨g7, 0, none⟩) (M + 1) c7) = w7.setCell ⟨k.g, 0, none⟩ (.slice (some ⟨g7, 0, none⟩) (M + 1) c7) from by rw [HKG.out])); clear hB7; have HWW : Hid ((w7.setCell ⟨k.g, 0, none⟩ (.slice (some ⟨g7, 0, none⟩) (M + 1) c7)).ownsRow 0 38 1 (.slice (some ⟨gw, 0, none⟩) M cw') M ((List.range M).map k'.want)) := (by have h : (w7.setCell ⟨k.g, 0, none⟩ (.slice (some ⟨g7, 0, none⟩) (M + 1) c7)).ownsRow 0 38 1 k'.wv (N + d) ((List.range (N + d)).map k'.want) := HFB.out.now.1 .wants; rw [HE2.out, HM.out] at h; exact Lib.hid h))
                | ((at_builtin; refine wpList_app1W _ rfl (.tmp 113) (.tmp 115) 32 rfl 38 is (.slice none 0 0) 24 Try.underlying32 his hzas hzbs hzcs rfl (.slice (some ⟨gw, 0, none⟩) M cw') M ((List.range M).map k'.want) rfl _ _ _ rfl (by first | rfl | simp) HWW.out rfl (by simp only [maxLen]; omega) (by omega) ?_; intro g8 c8 w8 hc8 ht8; have HT8 := Lib.hid ht8; clear ht8); have HF8 := Lib.hid (HFB.out.trans (Turns.famE HFB.out.now .wants (by show Hp.Own.row _ _ k'.wv (N + d) ((List.range (N + d)).map k'.want) = _; rw [HE2.out, HM.out]) HT8.out)); have hB8 : Blk w8 k'.g #[.slice (some ⟨g7, 0, none⟩) (M + 1) c7, k'.wv] 34 := HF8.out.now.1 .box; have b18 : w8.cell? ⟨k.g, 1, none⟩ = some (.slice (some ⟨gw, 0, none⟩) M cw') := (by have h := hB8.cell 1; rw [HE2.out, HKG.out] at h; exact h); have f18 : w8.frozen? ⟨k.g, 1, none⟩ = false := (by have h := hB8.frozen 1; rw [HKG.out] at h; exact h); have HFE := Lib.hid (Turns.world (HF8.out.trans (Turns.famE HF8.out.now .box (O := Hp.Own.blk k'.g #[.slice (some ⟨g7, 0, none⟩) (M + 1) c7, k'.wv] 34) rfl (Turns.blk_set hB8 1 (.slice (some ⟨g8, 0, none⟩) (M + 1) c8)))) (show w8.setCell ⟨k'.g, 1, none⟩ (.slice (some ⟨g8, 0, none⟩) (M + 1) c8) = w8.setCell ⟨k.g, 1, none⟩ (.slice (some ⟨g8, 0, none⟩) (M + 1) c8) from by rw [HKG.out])); clear hB8))
              go_roundw
              case rel =>
                refine ⟨d + 1, k'.add (N + d) (.slice (some ⟨g7, 0, none⟩) (M + 1) c7) (.slice (some ⟨g8, 0, none⟩) (M + 1) c8) (.slice X' m cx') (.slice Z' m cz') m (xs ++ ts), by simp, by omega, HKG.out, fun i hi => ?_, fun i hi => ?_, ?_⟩
                · show (if i = N + d then m else k'.len i) ≤ _
                  rw [if_neg (by omega)]
                  exact HKL.out i hi
                · show Gd (if i = N + d then xs ++ ts else k'.xs i) ∧ (if i = N + d then m else k'.len i) ≤ _
                  by_cases hi2 : i = N + d
                  · rw [if_pos hi2, if_pos hi2]
                    exact ⟨HGT.out, by omega⟩
                  · rw [if_neg hi2, if_neg hi2]
                    exact HOK.out i (by omega)
                · have h := HFE.out
                  refine h.to ?_
                  have hm' := HM.out
                  subst hm'
                  rw [← HX.out, ← HNN.out, ← HXS.out]
                  exact Own.fam_as (KS.grew k' _ _ _ N d hlt _ _ _ _ m _ _)
              case measure => simp [intOf]; omega
        · have hd : decide ((d : Int) < (N : Int)) = false := by simp; omega
          have hd' : decide (d < N) = false := by simp; omega
          obtain rfl : N = d := by omega
          have hho := holds_any k' N N wr HT.out.now (Nat.le_refl _) HOK.out (by omega)
          rw [HKG.out] at hho
          have HHE := Lib.hid hho
          clear hho hov hwv
          go_wp2_with (first
            | (go_at_call 22; (with_reducible refine HHE.out.mono ?_); rintro r w3 ⟨rfl, hc3⟩; have HT3 := Lib.hid (HT.out.kept hc3); clear hc3))
          go_ret
          exact ⟨rfl, HT3.out.chg⟩
end Go.Proofs.Ytkpgdonpmfebaaa.Bt.Kb
