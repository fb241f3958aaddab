/- The law's kept lists of ints: they are written all over, and grow. -/
import Derived.Test.YtmpkjfengfgagaaTmEI
import Derived.Deep.QuietTactic
namespace Go.Proofs.Ytmpkjfengfgagaa.Ti
open Go.RowKit Go.Hp
attribute [local go_sem] min2_lean min_two max2_lean max_two
set_option linter.unusedSimpArgs false
set_option linter.unusedVariables false
set_option maxRecDepth 100000
def markI (i : Nat) : Int := -7000 - (i : Int)
theorem Gd.set {xs : List Value} (h : Gd xs) (j : Nat) (v : Int) : Gd (xs.set j ((Value.int .i64) v)) := by
  obtain ⟨zs, rfl⟩ := h
  exact ⟨zs.set j v, by rw [List.map_set]⟩
theorem Gd.snoc {xs : List Value} (h : Gd xs) (v : Int) : Gd (xs ++ [(Value.int .i64) v]) := by
  obtain ⟨zs, rfl⟩ := h
  exact ⟨zs ++ [v], by simp⟩
def Oky (k : KT) : Prop := ∀ i, i < k.M → Gd (k.xs i) ∧ k.len i ≤ (if k.fr i = true then 900000 else 1000000)
theorem Oky.okk {k : KT} (h : Oky k) : Okk k := fun i hi => ⟨(h i hi).1, by have := (h i hi).2; split at this <;> omega⟩
theorem Oky.put {k : KT} (h : Oky k) (i : Nat) {zs : List Value} (hz : Gd zs) : Oky (k.put i zs) := fun x hx => by
  refine ⟨?_, (h x hx).2⟩
  show Gd (if x = i then zs else k.xs x)
  split
  · exact hz
  · exact (h x hx).1
theorem Oky.grow {k : KT} {lo hi : Nat} (h : Oky k) (hw : k.Wf lo hi) (i : Nat) (ov wv x y : Value) {n : Nat} {zs : List Value} (hz : Gd zs) (hn : n ≤ 1000000) : Oky (k.grow i ov wv x y n zs) := fun j hj => by
  have hj : j < k.M + 1 := hj
  show Gd (if j = k.M then zs else k.xs j) ∧ (if j = k.M then n else k.len j) ≤ (if (if j = i then false else k.fr j) = true then 900000 else 1000000)
  by_cases e : j = k.M
  · rw [if_pos e, if_pos e, hw.no (by omega : k.M ≤ j)]
    exact ⟨hz, by simpa using hn⟩
  · rw [if_neg e, if_neg e]
    obtain ⟨a, b⟩ := h j (by omega)
    refine ⟨a, ?_⟩
    by_cases ei : j = i
    · rw [if_pos ei]
      by_cases ef : k.fr j = true
      · rw [if_pos ef] at b
        simp
        omega
      · rw [if_neg ef] at b
        simpa using b
    · rw [if_neg ei]
      exact b
theorem bO_at {T : TypeId} {g : Nat} {av bv : Value} {f : Nat} {k : KT} {w : World} (h : (bO T g av bv f k).holds w) {M : Nat} (hM : k.M = M) {Ao Aw : Option Addr} {co cw : Nat} (hov : k.ov = .slice Ao M co) (hwv : k.wv = .slice Aw M cw) :
    w.cell? ⟨g, 2, none⟩ = some (.slice Ao M co) ∧ w.cell? ⟨g, 3, none⟩ = some (.slice Aw M cw) ∧ w.cell? ⟨g, 4, none⟩ = some (.int .i64 (f : Nat)) ∧ w.frozen? ⟨g, 4, none⟩ = false ∧ g < w.heap.size := by
  obtain ⟨-, -, b2, b3, b4, -, -, -, -, f4, hl⟩ := h.1.five
  rw [hov] at b2
  rw [hwv] at b3
  exact ⟨b2, b3, b4, f4, hl⟩
set_option maxHeartbeats 4000000 in
theorem write_any (T : TypeId) (g : Nat) (av bv : Value) (f : Nat) (k : KT) (w : World) (h : (bO T g av bv f k).holds w) (hw : k.Wf f k.M) (hg : Oky k) (hN : 2 * k.M - f ≤ 8796093022208) :
    Calls Try.prog 56 #[.pointer (some ⟨g, 2, none⟩)] w fun e w' => e = .returned (.bool true) ∧ ∃ k' : KT, k'.M = 2 * k.M - f ∧ k'.Wf k'.M k'.M ∧ Oky k' ∧ Turns w w' (bO T g av bv f k) (bO T g av bv k'.M k') := by
  obtain ⟨ij, hij, hzaj, hzbj, hzcj⟩ := info_parts Try.info3
  obtain ⟨is, his, hzas, hzbs, hzcs⟩ := info_parts Try.info187
  obtain ⟨M, hM⟩ : ∃ M, k.M = M := ⟨_, rfl⟩
  have hfM : f ≤ M := by have := hw.lob; omega
  obtain ⟨Ao, co, hov⟩ := row_slice (KT.outs h.2.1)
  obtain ⟨Aw, cw, hwv⟩ := row_slice (KT.wants h.2.1)
  rw [hM] at hov hwv hN
  obtain ⟨b2, b3, b4, f4, hgl⟩ := bO_at h hM hov hwv
  have HHO := Lib.hid (holds_any T g av bv f f k.M k w h hw hg.okk (by omega))
  have H0 := Lib.hid (Turns.refl h)
  have HW := Lib.hid hw
  have HG := Lib.hid hg
  have HOV := Lib.hid hov
  have HWV := Lib.hid hwv
  have HM := Lib.hid hM
  clear h hw hg hov hwv hM
  go_enter Try.func56, Try.ntmps56
  go_wp2_with (first
    | (go_at_call 52; (with_reducible refine HHO.out.mono ?_); rintro r w1 ⟨rfl, rfl⟩))
  rename_i w1
  go_quiet (fail)
  go_wp2_with fail
  go_loopw [6] (fun x6 wr => ∃ (i : Nat) (φ : Nat → List Value), x6 = .int .i64 i ∧ f ≤ i ∧ i ≤ M ∧ (k.wx φ).Wf f M ∧ Oky (k.wx φ) ∧ Turns w1 wr (bO T g av bv f k) (bO T g av bv f (k.wx φ))) (fun x6 _ => M - (intOf x6).toNat)
  case atStart =>
    refine ⟨f, k.xs, rfl, Nat.le_refl _, hfM, ?_, HG.out, ?_⟩
    · have := HW.out
      rw [HM.out] at this
      exact this
    · exact H0.out.kept ((Chg.refl _ _).drewN _)
  case round =>
    clear b2 b3 b4 f4 hgl HHO
    obtain ⟨i, φ, rfl, hfi, hiM, hwf, hok, ht⟩ := hrel
    have HWF := Lib.hid hwf
    have HOK := Lib.hid hok
    have HT := Lib.hid ht
    clear hwf hok ht
    by_cases hlt : i < M
    ·
      have hd : decide ((i : Int) < (M : Int)) = true := by simp; omega
      have hd' : decide (i < M) = true := by simp; omega
      have hfr : k.fr i = true := by
        have := HWF.out.fr i
        have h2 : (k.wx φ).fr i = k.fr i := rfl
        rw [← h2, this, decide_eq_true_eq]
        exact ⟨hfi, hlt⟩
      obtain ⟨n, hn⟩ : ∃ n, k.len i = n := ⟨_, rfl⟩
      have hnb : n ≤ 900000 := by
        have := (HOK.out i (by show i < k.M; rw [HM.out]; exact hlt)).2
        rw [show (k.wx φ).fr i = true from hfr, if_pos rfl, show (k.wx φ).len i = n from hn] at this
        exact this
      have HNN := Lib.hid hn
      clear hn
      obtain ⟨b2, b3, b4, f4, hgl⟩ := bO_at HT.out.now HM.out HOV.out HWV.out
      obtain ⟨go, co', gw, cw', e1, e2, c0, c1⟩ := KT.at_ HT.out.n1 (i := i) (by show i < k.M; rw [HM.out]; exact hlt)
      rw [show (k.wx φ).M = M from HM.out] at e1 e2
      obtain ⟨rfl, _, rfl⟩ := Value.slice.inj (HOV.out.symm.trans e1)
      obtain ⟨rfl, _, rfl⟩ := Value.slice.inj (HWV.out.symm.trans e2)
      obtain ⟨X, cx, hX⟩ := (KT.reads HT.out.n1 HWF.out (i := i) (by show i < k.M; rw [HM.out]; exact hlt)).1.len
      obtain ⟨Y, cy, hY⟩ := (KT.reads HT.out.n1 HWF.out (i := i) (by show i < k.M; rw [HM.out]; exact hlt)).2.len
      rw [show (k.wx φ).len i = n from HNN.out] at hX hY
      have HX := Lib.hid (show k.out i = _ from hX)
      have HY := Lib.hid (show k.want i = _ from hY)
      rw [hX] at c0
      clear hX hY c1 e1 e2
      go_wp2_with fail
      go_loopw [36] (fun x36 wr => ∃ (j : Nat) (φ : Nat → List Value), x36 = .int .i64 j ∧ j ≤ n ∧ (k.wx φ).Wf f M ∧ Oky (k.wx φ) ∧ Turns w1 wr (bO T g av bv f k) (bO T g av bv f (k.wx φ))) (fun x36 _ => n - (intOf x36).toNat)
      case atStart => exact ⟨0, φ, rfl, Nat.zero_le _, HWF.out, HOK.out, HT.out⟩
      case round =>
        clear HT HOK HWF c0 b2 b3 b4 f4 hgl
        obtain ⟨j, φ, rfl, hjn, hwf, hok, ht⟩ := hrel
        have HWF := Lib.hid hwf
        have HOK := Lib.hid hok
        have HT := Lib.hid ht
        clear hwf hok ht
        by_cases hlj : j < n
        · have hd2 : decide ((j : Int) < (n : Int)) = true := by simp; omega
          have hd3 : decide (j < n) = true := by simp; omega
          obtain ⟨b2, b3, b4, f4, hgl⟩ := bO_at HT.out.now HM.out HOV.out HWV.out
          obtain ⟨go', co', gw', cw', e1, e2, c0, c1⟩ := KT.at_ HT.out.n1 (i := i) (by show i < k.M; rw [HM.out]; exact hlt)
          rw [show (k.wx φ).M = M from HM.out] at e1 e2
          obtain ⟨e1', _, rfl⟩ := Value.slice.inj (HOV.out.symm.trans e1)
          obtain ⟨e2', _, rfl⟩ := Value.slice.inj (HWV.out.symm.trans e2)
          simp only [Option.some.injEq, Addr.mk.injEq, and_true] at e1' e2'
          subst e1' e2'
          obtain ⟨bo, cc, bw, cd, a1, a2, r1, r2, fb1, fb2, n3, n4, n5⟩ := KT.apart HT.out.n1 (i := i) hfr (show 0 < k.len i by rw [HNN.out]; omega)
          have n1 : bo ≠ g := fun e => HT.out.now.2.2 bo e fb1
          have n2 : bw ≠ g := fun e => HT.out.now.2.2 bw e fb2
          obtain ⟨m4, m4'⟩ := n4 _ _ _ e2
          obtain ⟨m5, m5'⟩ := n5 _ _ _ e1
          rw [show (k.wx φ).len i = n from HNN.out] at a1 a2 r1 r2
          rw [a1] at c0
          rw [a2] at c1
          have HA1 := Lib.hid a1
          have HA2 := Lib.hid a2
          have hxl : j < ((k.wx φ).xs i).length := by have := r1.1; omega
          obtain ⟨p1, p2⟩ := row_at r1 j (List.getElem?_eq_getElem hxl)
          have hlo : bo < wr.heap.size := Own.lt _ HT.out.now bo (Or.inr fb1)
          clear n4 n5 e1 e2 r1 r2 fb1 fb2
          have HZ := Lib.hid (Gd.set (HOK.out i (by show i < k.M; rw [HM.out]; exact hlt)).1 j (markI i))
          have p3 : wr.cell? ⟨bw, j, none⟩ = some ((k.wx φ).xs i)[j] ∧ wr.frozen? ⟨bw, j, none⟩ = false := row_at (KT.rowC HT.out.n1 (i := i) hfr HA2.out HNN.out) j (List.getElem?_eq_getElem hxl)
          obtain ⟨p3, p4⟩ := p3
          have hlw : bw < wr.heap.size := (World.ownsRow.lt (KT.rowC HT.out.n1 (i := i) hfr HA2.out HNN.out) bw rfl).2
          have HTO := Lib.hid (HT.out.at1 (KT.markO (k.wx φ) HT.out.n1 (i := i) hfr (by rw [show (k.wx φ).len i = n from HNN.out]; exact HA1.out) j (Value.int .i64 (markI i))))
          have HTC := Lib.hid (HTO.out.at1 (KT.markC (k.wx φ) HTO.out.n1 hfr (cw := cd) (by rw [show (k.wx φ).len i = n from HNN.out]; exact HA2.out)))
          generalize ((k.wx φ).xs i)[j] = uu at *
          go_wp2_with fail
          go_roundw
          case rel => exact ⟨j + 1, _, by simp, by omega, HWF.out.put hfr _, HOK.out.put i HZ.out, HTC.out⟩
          case measure => simp [intOf]; omega
        · have hd2 : decide ((j : Int) < (n : Int)) = false := by simp; omega
          have hd3 : decide (j < n) = false := by simp; omega
          go_wp2_with fail
          go_roundw
          case rel => exact ⟨i + 1, φ, by simp, by omega, by omega, HWF.out, HOK.out, HT.out⟩
          case measure => simp [intOf]; omega
    · have hd : decide ((i : Int) < (M : Int)) = false := by simp; omega
      have hd' : decide (i < M) = false := by simp; omega
      go_wp2_with fail
      go_loopw [8] (fun x8 wr => ∃ (i : Nat) (k2 : KT), x8 = .int .i64 i ∧ f ≤ i ∧ i ≤ M ∧ k2.M = M + (i - f) ∧ k2.Wf i M ∧ Oky k2 ∧ Turns w1 wr (bO T g av bv f k) (bO T g av bv f k2)) (fun x8 _ => M - (intOf x8).toNat)
      case atStart => exact ⟨f, k.wx φ, rfl, Nat.le_refl _, hfM, by rw [show (k.wx φ).M = M from HM.out]; omega, HWF.out, HOK.out, HT.out⟩
      case round =>
        clear HT HOK HWF HOV HWV HG HW hd hd' hiM hfi
        obtain ⟨i, k2, rfl, hfi, hiM, hm2, hwf, hok, ht⟩ := hrel
        obtain ⟨M2, hM2⟩ : ∃ M2, k2.M = M2 := ⟨_, rfl⟩
        have HWF := Lib.hid hwf
        have HOK := Lib.hid hok
        have HT := Lib.hid ht
        have HM2 := Lib.hid hM2
        have hm2' : M2 = M + (i - f) := hM2.symm.trans hm2
        obtain ⟨Ao, co, hov⟩ := row_slice (KT.outs ht.now.2.1)
        obtain ⟨Aw, cw, hwv⟩ := row_slice (KT.wants ht.now.2.1)
        rw [hM2] at hov hwv
        obtain ⟨b2, b3, b4, f4, hgl⟩ := bO_at ht.now hM2 hov hwv
        clear hwf hok ht hm2 hM2
        by_cases hlt : i < M
        · have hd : decide ((i : Int) < (M : Int)) = true := by simp; omega
          have hd' : decide (i < M) = true := by simp; omega
          have hfr : k2.fr i = true := by
            rw [HWF.out.fr, decide_eq_true_eq]
            exact ⟨Nat.le_refl _, hlt⟩
          have hi2 : i < k2.M := by rw [HM2.out]; omega
          obtain ⟨hgx, hnb⟩ := HOK.out i hi2
          rw [if_pos hfr] at hnb
          obtain ⟨go, co', gw, cw', e1, e2, c0, c1⟩ := KT.at_ HT.out.n1 hi2
          obtain ⟨s1, s2⟩ := KT.reads HT.out.n1 HWF.out hi2
          obtain ⟨X, cx, hX⟩ := s1.len
          obtain ⟨Y, cy, hY⟩ := s2.len
          have ht0 := HT.out.at1 (KT.take k2 hfr HT.out.n1)
          rw [hX] at c0 ht0
          rw [hY] at c1 s2
          rw [HM2.out] at e1 e2
          obtain ⟨rfl, _, rfl⟩ := Value.slice.inj (hov.symm.trans e1)
          obtain ⟨rfl, _, rfl⟩ := Value.slice.inj (hwv.symm.trans e2)
          have HX := Lib.hid hX
          have HY := Lib.hid hY
          have HOV := Lib.hid hov
          have HWV := Lib.hid hwv
          obtain ⟨n, hn⟩ : ∃ n, k2.len i = n := ⟨_, rfl⟩
          obtain ⟨xs, hxs⟩ : ∃ xs, k2.xs i = xs := ⟨_, rfl⟩
          rw [hn] at c0 c1 ht0 s2 hnb
          rw [hxs] at hgx ht0 s2
          have HT0 := Lib.hid ht0
          have HS2 := Lib.hid s2
          have HGX := Lib.hid hgx
          have HNN := Lib.hid hn
          have HXS := Lib.hid hxs
          have HXN := Lib.hid (show k2.out i = .slice X n cx from by rw [hX, hn])
          clear s1 s2 hX hY hov hwv e1 e2 hn hxs hgx ht0 hi2
          have hM2b : M2 ≤ 8796093022208 := by omega
          have hi3 : i < M2 := by omega
          have HMM := Lib.hid hm2'
          clear hm2'
          go_wp2_with fail
          go_region_law (first
            | ((refine step_copyN _ rfl (.tmp 81) 187 rfl 3 ij ((.int .i64 0)) 8 Try.underlying187 hij hzaj hzbj hzcj rfl (.slice Y n cy) n xs rfl HS2.out HGX.out.one (by simp only [maxLen]; omega) (by omega) ?_; intro A6 c6 w6 ht6; have HT6 := Lib.hid ht6; clear ht6); have HF6 := Lib.hid (HT0.out.at1 (Turns.famE HT0.out.n1 .z (O := Hp.Own.emp) (by simp [upd, KT.fam]) HT6.out.drewl)); have b26 : w6.cell? ⟨g, 2, none⟩ = some (.slice (some ⟨go, 0, none⟩) M2 co) := (by have h := HF6.out.b0.cell 2; rw [HOV.out] at h; exact h); have c06 := fam_outs (k := k2) (SE := 187) (E := 3) HF6.out.n1 rfl HM2.out HOV.out hi3 HXN.out))
          all_goals
            go_wp2_with fail
            have HF0 : Hid (Turns w1 w6 (bO T g av bv f k) (Hp.Own.both (Hp.Own.blk g #[av, bv, k2.ov, k2.wv, .int .i64 (f : Nat)] T) (Hp.Own.fam (k2.mid 187 3 i (Hp.Own.pre 3 (.slice X n cx) n xs (.slice X n cx) n (xs ++ [])) (Hp.Own.row 3 1 (.slice A6 n c6) n (xs ++ [])))))) := by
              rw [List.append_nil]
              exact HF6
            go_loopw [9, 10, 83] (fun x9 x10 x83 wr => ∃ (q m : Nat) (X' : Option Addr) (cx' : Nat) (Z' : Option Addr) (cz' : Nat) (ts : List Value), x83 = .int .i64 q ∧ q ≤ 40 ∧ m = n + q ∧ x9 = .slice X' m cx' ∧ x10 = .slice Z' m cz' ∧ Gd (xs ++ ts) ∧
              Turns w1 wr (bO T g av bv f k) (Hp.Own.both (Hp.Own.blk g #[av, bv, k2.ov, k2.wv, .int .i64 (f : Nat)] T) (Hp.Own.fam (k2.mid 187 3 i (Hp.Own.pre 3 (.slice X n cx) n xs (.slice X' m cx') m (xs ++ ts)) (Hp.Own.row 3 1 (.slice Z' m cz') m (xs ++ ts)))))) (fun _ _ x83 _ => 40 - (intOf x83).toNat)
            case atStart => exact ⟨0, n, X, cx, A6, c6, [], rfl, by omega, rfl, rfl, rfl, by rw [List.append_nil]; exact HGX.out, HF0.out⟩
            case round =>
              clear HF0 HF6 HT6 b26 c06 c0 c1 b2 b3 b4 f4
              obtain ⟨q, m, X', cx', Z', cz', ts, rfl, hq, hm, rfl, rfl, hgt, ht⟩ := hrel
              have HGT := Lib.hid hgt
              have HMM2 := Lib.hid hm
              have hmb : m ≤ 900040 := by omega
              have HTa := Lib.hid ht
              clear hgt ht hm
              by_cases hlq : q < 40
              ·
                have hd2 : decide ((q : Int) < 40) = true := by simp; omega
                have hd3 : decide (q < 40) = true := by simp; omega
                go_wp2_with (first
                  | fail
                  | ((at_builtin; refine wpList_appK _ rfl (.tmp 85) (.tmp 88) 187 rfl 3 ij ((.int .i64 0)) 8 Try.underlying187 hij hzaj hzbj hzcj rfl (.slice X' m cx') m (xs ++ ts) rfl _ _ _ rfl (by first | rfl | simp) (Own.pre_row (KT.mid_hx HTa.out.n1)) (by simp [Value.oneCell']) (by simp only [maxLen]; omega) (by omega) ?_; intro g7 c7 w7 hc7 ht7 hs7 hn7; have HT7 := Lib.hid ht7; have HS7 := Lib.hid hs7; have HN7 := Lib.hid hn7; clear ht7 hs7 hn7); have HTb := Lib.hid (HTa.out.at1 (KT.mid_tx HTa.out.n1 (Turns.pre (KT.mid_hx HTa.out.n1) HT7.out HS7.out (by rcases HN7.out with h | h; exact Or.inl h; exact Or.inr ⟨_, rfl, h⟩)))); clear HTa; have HTa := HTb; clear HTb)
                  | ((at_builtin; refine wpList_app1 _ rfl (.tmp 90) (.tmp 93) 187 rfl 3 ij ((.int .i64 0)) 1 8 Try.underlying187 hij hzaj hzbj hzcj rfl (by decide) (.slice Z' m cz') m (xs ++ ts) rfl _ _ _ rfl (by first | rfl | simp) (KT.mid_hz HTa.out.n1) rfl (by simp [Value.oneCell']) (by simp only [maxLen]; omega) (by omega) ?_; intro g8 c8 w8 hc8 ht8; have HT8 := Lib.hid ht8; clear ht8); have HTb := Lib.hid (HTa.out.at1 (KT.mid_tz HTa.out.n1 HT8.out)); clear HTa; have HTa := HTb; clear HTb))
                go_roundw
                case rel =>
                  refine ⟨q + 1, m + 1, _, _, _, _, ts ++ [(Value.int .i64) (markI i)], by simp, by omega, by have := HMM2.out; omega, rfl, rfl, by rw [← List.append_assoc]; exact HGT.out.snoc _, ?_⟩
                  have h := HTa.out
                  rw [List.append_assoc] at h
                  exact h
                case measure => simp [intOf]; omega
              · have hd2 : decide ((q : Int) < 40) = false := by simp; omega
                have hd3 : decide (q < 40) = false := by simp; omega
                obtain ⟨b0, b1, b2, b3, b4, f0, f1, f2, f3, f4, hgl⟩ := HTa.out.b0.five
                rw [HOV.out] at b2
                rw [HWV.out] at b3
                have HOH : Hid (wr.ownsRow 0 187 1 (.slice (some ⟨go, 0, none⟩) M2 co) M2 ((List.range M2).map k2.out)) := Lib.hid (by
                  have h := HTa.out.n1.1 .outs
                  rw [KT.mid_outs, HM2.out, HOV.out] at h
                  exact h)
                go_wp2_with (first
                  | ((at_builtin; refine wpList_app1W _ rfl (.tmp 100) (.tmp 102) 111 rfl 187 is (.slice none 0 0) 24 Try.underlying111 his hzas hzbs hzcs rfl (.slice (some ⟨go, 0, none⟩) M2 co) M2 ((List.range M2).map k2.out) rfl _ _ _ rfl (by first | rfl | simp) HOH.out rfl (by simp only [maxLen]; omega) (by omega) ?_; intro g4 c4 w4 hc4 ht4; have HT4 := Lib.hid ht4; clear ht4); have HF4 := Lib.hid (HTa.out.at1 (Turns.famE HTa.out.n1 .outs (by rw [KT.mid_outs, HM2.out, HOV.out]) HT4.out)); clear b0 b1 b2 b3 b4 f0 f1 f2 f3 f4 hgl; obtain ⟨b0, b1, b2, b3, b4, f0, f1, f2, f3, f4, hgl⟩ := HF4.out.b0.five; rw [HOV.out] at b2; rw [HWV.out] at b3; have HF5 := Lib.hid (HF4.out.put0 2 (.slice (some ⟨g4, 0, none⟩) (M2 + 1) c4)); have HWH : Hid ((w4.setCell ⟨g, 2, none⟩ (.slice (some ⟨g4, 0, none⟩) (M2 + 1) c4)).ownsRow 0 187 1 (.slice (some ⟨gw, 0, none⟩) M2 cw) M2 ((List.range M2).map k2.want)) := Lib.hid (by (have h := HF5.out.n1.1 .wants; rw [KT.mid_wants2, HM2.out, HWV.out] at h; exact h)))
                  | ((at_builtin; refine wpList_app1W _ rfl (.tmp 110) (.tmp 112) 111 rfl 187 is (.slice none 0 0) 24 Try.underlying111 his hzas hzbs hzcs rfl (.slice (some ⟨gw, 0, none⟩) M2 cw) M2 ((List.range M2).map k2.want) rfl _ _ _ rfl (by first | rfl | simp) HWH.out rfl (by simp only [maxLen]; omega) (by omega) ?_; intro g7 c7 w7 hc7 ht7; have HT7 := Lib.hid ht7; clear ht7); have HF7 := Lib.hid (HF5.out.at1 (Turns.famE HF5.out.n1 .wants (by rw [KT.mid_wants2, HM2.out, HWV.out]) HT7.out)); clear b0 b1 b2 b3 b4 f0 f1 f2 f3 f4 hgl; obtain ⟨b0, b1, b2, b3, b4, f0, f1, f2, f3, f4, hgl⟩ := HF7.out.b0.five; have HF8 := Lib.hid (HF7.out.put0 3 (.slice (some ⟨g7, 0, none⟩) (M2 + 1) c7))))
                all_goals
                  refine ⟨⟨i + 1, k2.grow i (.slice (some ⟨g4, 0, none⟩) (M2 + 1) c4) (.slice (some ⟨g7, 0, none⟩) (M2 + 1) c7) (.slice X' m cx') (.slice Z' m cz') m (xs ++ ts), by simp, by omega, by omega, ?_, HWF.out.grow hlt _ _ _ _ _ _, HOK.out.grow HWF.out i _ _ _ _ HGT.out (by omega), ?_⟩, by simp [intOf]; omega⟩
                  · show k2.M + 1 = M + (i + 1 - f)
                    rw [HM2.out, HMM.out]
                    omega
                  · exact HF8.out.at1 (KT.close k2 hfr (HWF.out.no (Nat.le_refl _)) HXN.out HNN.out HXS.out HM2.out HF8.out.n1)
        · have hiM' : i = M := by omega
          have hd : decide ((i : Int) < (M : Int)) = false := by simp; omega
          have hd' : decide (i < M) = false := by simp; omega
          have HOV := Lib.hid hov
          have HWV := Lib.hid hwv
          clear hov hwv
          have hT2 : Turns w1 (wr.setCell ⟨g, 4, none⟩ (.int .i64 (M2 : Nat))) (bO T g av bv f k) (bO T g av bv M2 k2) := HT.out.put0 4 (.int .i64 (M2 : Nat))
          have HH2 := Lib.hid (holds_any T g av bv M2 i M k2 _ hT2.now HWF.out HOK.out.okk (by rw [HM2.out]; omega))
          have hfin : Hid (∃ k' : KT, k'.M = 2 * k.M - f ∧ k'.Wf k'.M k'.M ∧ Oky k' ∧ Turns w1 (wr.setCell ⟨g, 4, none⟩ (.int .i64 (M2 : Nat))) (bO T g av bv f k) (bO T g av bv k'.M k')) := Lib.hid (by
            refine ⟨k2, ?_, ?_, HOK.out, ?_⟩
            · rw [HM2.out, HM.out]
              omega
            · have h := HWF.out
              rw [hiM'] at h
              exact h.top
            · rw [HM2.out]
              exact hT2)
          clear hT2 hm2'
          go_wp2_with (first
            | (go_at_call 52; (with_reducible refine HH2.out.mono ?_); rintro r w9 ⟨rfl, rfl⟩))
          all_goals
            refine bodyPost_ret (v := .bool true) (by simp [results, Try.results56, go_sem, *]) rfl ⟨rfl, hfin.out⟩
end Go.Proofs.Ytmpkjfengfgagaa.Ti
