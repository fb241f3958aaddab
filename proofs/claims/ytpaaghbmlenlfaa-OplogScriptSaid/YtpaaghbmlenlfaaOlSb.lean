/- The law's kept lists of entries: keep. -/
import Derived.Test.YtpaaghbmlenlfaaOlSa
namespace Go.Proofs.Ytpaaghbmlenlfaa.Ol
open Go.Hp.M7
open Go.RowKit Go.Hp
attribute [local go_sem] min2_lean min_two max2_lean max_two
set_option linter.unusedSimpArgs false
set_option linter.unusedVariables false
set_option maxRecDepth 100000
theorem Try.info52 : (Try.prog.info? 52).map (fun i => (i.zero, i.size, i.bytes)) = some (some (.slice none 0 0), 1, 24) := by kernel_rfl
theorem keep_any (g : Nat) (av bv : Value) (f : Nat) (k : KM) (A : Option Addr) (n c : Nat) (xs : List Value) (w : World) (h : (Hp.Own.both (Hp.Own.row 51 7 (.slice A n c) n xs) (bO g av bv f k)).holds w) (hg : Gd xs) (hf : k.fr k.M = false) (hn : n ≤ 1000000) (hN : k.M ≤ 8796093022208) :
    Calls Try.prog 52 #[.pointer (some ⟨g, 2, none⟩), .slice A n c] w fun e w' => e = .returned (.tuple #[]) ∧ ∃ ov wv y, Turns w w' (Hp.Own.both (Hp.Own.row 51 7 (.slice A n c) n xs) (bO g av bv f k)) (bO g av bv f (k.add ov wv (.slice A n c) y n xs)) := by
  obtain ⟨ij, hij, hzaj, hzbj, hzcj⟩ := info_parts Try.info51
  obtain ⟨is, his, hzas, hzbs, hzcs⟩ := info_parts Try.info52
  obtain ⟨M, hM⟩ : ∃ M, k.M = M := ⟨_, rfl⟩
  obtain ⟨Ao, co, hov⟩ := row_slice (KM.outs h.2.1.2.1)
  obtain ⟨Aw, cw, hwv⟩ := row_slice (KM.wants h.2.1.2.1)
  have hN0 : k.fam 52 51 (.o k.M) = Hp.Own.emp := by simp [KM.fam, hf]
  have hC0 : k.fam 52 51 (.c k.M) = Hp.Own.emp := by simp [KM.fam, hf]
  have hT0 : Turns w w (Hp.Own.both (Hp.Own.row 51 7 (.slice A n c) n xs) (bO g av bv f k)) (Hp.Own.both (Hp.Own.blk g #[av, bv, k.ov, k.wv, .int .i64 (f : Nat)] 78) (Hp.Own.fam (upd (k.fam 52 51) (.o k.M) (Hp.Own.row 51 7 (.slice A n c) n xs)))) := by
    have t := (Turns.refl h).flip
    have t2 := Own.fam_take (F := k.fam 52 51) (A := Hp.Own.row 51 7 (.slice A n c) n xs) (.o k.M) hN0 ((Turns.refl t.n1).swap.now)
    exact t.at1 ((Turns.refl t.n1).swap.trans t2)
  obtain ⟨b0, b1, b2, b3, b4, f0, f1, f2, f3, f4, hgl⟩ := h.2.1.1.five
  rw [hov] at b2
  rw [hwv] at b3
  have HO := KM.outs h.2.1.2.1
  rw [hov] at HO
  rw [hM] at b2 b3 HO hN0 hC0 hov hwv hT0 hN hf
  have HOH := Lib.hid HO
  have HT0 := Lib.hid hT0
  have HG := Lib.hid hg
  have HOV := Lib.hid hov
  have HWV := Lib.hid hwv
  have HM := Lib.hid hM
  have HC0 := Lib.hid hC0
  clear hg h HO hT0 hN0 hC0 hM
  go_enter Try.func52, Try.ntmps52
  go_wp2_with (first
    | ((at_builtin; refine wpList_app1W _ rfl (.tmp 8) (.tmp 10) 74 rfl 52 is (.slice none 0 0) 24 Try.underlying74 his hzas hzbs hzcs rfl (.slice Ao M co) M ((List.range M).map k.out) rfl _ _ _ rfl (by first | rfl | simp) HOH.out rfl (by simp only [maxLen]; omega) (by omega) ?_; intro g4 c4 w4 hc4 ht4; have HT4 := Lib.hid ht4; clear ht4); have HF4 := Lib.hid (HT0.out.at1 (Turns.famE HT0.out.n1 .outs (by show Hp.Own.row _ _ k.ov k.M _ = _; rw [HOV.out, HM.out]) HT4.out)); have HB4 := Lib.hid HF4.out.b0; obtain ⟨q0, q1, q2, q3, q4, r0, r1, r2, r3, r4, hgl4⟩ := HB4.out.five; rw [HOV.out] at q2; rw [HWV.out] at q3))
  have HF5 := Lib.hid (HF4.out.put0 2 (.slice (some ⟨g4, 0, none⟩) (M + 1) c4))
  obtain ⟨W5, hW5⟩ : ∃ W, W = w4.setCell ⟨g, 2, none⟩ (.slice (some ⟨g4, 0, none⟩) (M + 1) c4) := ⟨_, rfl⟩
  rw [← hW5] at HF5 ⊢
  clear hW5 b0 b1 b2 b3 b4 f0 f1 f2 f3 f4 q0 q1 q2 q3 q4 r0 r1 r2 r3 r4 HB4 hgl
  have hB5 : Blk W5 g #[av, bv, .slice (some ⟨g4, 0, none⟩) (M + 1) c4, k.wv, .int .i64 (f : Nat)] 78 := HF5.out.b0
  obtain ⟨q0, q1, q2, q3, q4, r0, r1, r2, r3, r4, hgl5⟩ := hB5.five
  rw [HWV.out] at q3
  have hrow5 : (Hp.Own.row 51 7 (.slice A n c) n xs).holds W5 := by simpa [upd] using HF5.out.n1.1 (.o M)
  have HSR := Lib.hid (show Src W5 (.slice A n c) n 7 xs from Src.of_own (show W5.ownsRow 0 51 7 (.slice A n c) n xs from hrow5))
  clear hrow5
  clear hB5
  go_region_law (first
      | (refine step_copyM _ rfl (.const (.slice none 0 0)) (.tmp 19) 52 rfl 51 ij (.agg En.zero.cells.toArray) 7 72 Try.underlying52 hij hzaj hzbj hzcj rfl (by decide) rfl (.slice A n c) n xs rfl HSR.out HG.out.one (by simp only [maxLen]; omega) (by omega) ?_; intro A6 c6 w6 ht6; have HT6 := Lib.hid ht6; clear ht6; have HF6 := Lib.hid (HF5.out.at1 (Turns.famE HF5.out.n1 (.c M) (O := Hp.Own.emp) (by have := HC0.out; simpa [upd] using this) HT6.out.drewl)); have HWO := Lib.hid (show w6.ownsRow 0 52 1 (.slice Aw M cw) M ((List.range M).map k.want) from (by have := HF6.out.n1.1 .wants; simp only [upd, KM.fam, reduceCtorEq, if_false] at this; rw [HWV.out, HM.out] at this; exact this)); have hB6 : Blk w6 g #[av, bv, .slice (some ⟨g4, 0, none⟩) (M + 1) c4, k.wv, .int .i64 (f : Nat)] 78 := HF6.out.b0; obtain ⟨p0, p1, p2, p3, p4, z0, z1, z2, z3, z4, hgl6⟩ := hB6.five; rw [HWV.out] at p3; clear hB6)
      | ((refine step_app1W _ rfl (.tmp 18) (.tmp 21) 74 rfl 52 is (.slice none 0 0) 24 Try.underlying74 his hzas hzbs hzcs rfl (.slice Aw M cw) M ((List.range M).map k.want) rfl _ _ _ rfl (by first | rfl | simp) HWO.out rfl (by simp only [maxLen]; omega) (by omega) ?_; intro g7 c7 w7 hc7 ht7; have HT7 := Lib.hid ht7; clear ht7); have HF7 := Lib.hid (HF6.out.at1 (Turns.famE HF6.out.n1 .wants (by show Hp.Own.row _ _ k.wv k.M _ = _; rw [HWV.out, HM.out]) HT7.out)); have hB7 : Blk w7 g #[av, bv, .slice (some ⟨g4, 0, none⟩) (M + 1) c4, k.wv, .int .i64 (f : Nat)] 78 := HF7.out.b0; obtain ⟨x0, x1, x2, x3, x4, y0, y1, y2, y3, y4, hgl7⟩ := hB7.five; rw [HWV.out] at x3; clear hB7))
  all_goals
    refine bodyPost_end (results_none rfl _ _ _) rfl ?_
    refine ⟨rfl, .slice (some ⟨g4, 0, none⟩) (M + 1) c4, .slice (some ⟨g7, 0, none⟩) (M + 1) c7, .slice A6 n c6, (HF7.out.put0 3 (.slice (some ⟨g7, 0, none⟩) (M + 1) c7)).to ?_⟩
    have hm := HM.out
    subst hm
    exact congrArg (Hp.Own.both _) (Own.fam_as (KM.kept k _ _ _ _ _ _ n xs))
end Go.Proofs.Ytpaaghbmlenlfaa.Ol
