/- The law's kept lists of ints: keep, holds. -/
import Derived.Test.YtmpkjfengfgagaaTmDI
import Derived.Test.YtmpkjfengfgagaaKt
import Derived.Sort.EncStr
import Derived.Deep.RegionHeld3
import Derived.Deep.RegionLaw
import Derived.ProofKit
import Derived.Lib.Hide
import Derived.WalkSpells
import Derived.WalkLawsBesides
import Derived.Test.YtmpkjfengfgagaaKw
namespace Go.Proofs.Ytmpkjfengfgagaa.Ti
open Go.RowKit Go.Hp
attribute [local go_sem] min2_lean min_two max2_lean max_two
set_option linter.unusedSimpArgs false
set_option linter.unusedVariables false
set_option maxRecDepth 100000
theorem Try.info187 : (Try.prog.info? 187).map (fun i => (i.zero, i.size, i.bytes)) = some (some (.slice none 0 0), 1, 24) := by kernel_rfl
def Gd (xs : List Value) : Prop := ∃ zs : List Int, xs = zs.map (Value.int .i64)
theorem Gd.one {xs : List Value} (h : Gd xs) : ∀ u ∈ xs, u.oneCell' = true := by
  obtain ⟨zs, rfl⟩ := h
  intro u hu
  obtain ⟨z, _, rfl⟩ := List.mem_map.1 hu
  rfl
theorem Gd.at_ {xs : List Value} (h : Gd xs) {i : Nat} (hi : i < xs.length) : ∃ x, xs[i] = (Value.int .i64) x := by
  obtain ⟨zs, rfl⟩ := h
  exact ⟨zs[i]'(by simpa using hi), by simp⟩
def Okk (k : KT) : Prop := ∀ i, i < k.M → Gd (k.xs i) ∧ k.len i ≤ 1000000
abbrev kO (k : KT) : Hp.Own := k.own 187 3
abbrev bO (T : TypeId) (g : Nat) (av bv : Value) (f : Nat) (k : KT) : Hp.Own := Hp.Own.both (Hp.Own.blk g #[av, bv, k.ov, k.wv, .int .i64 (f : Nat)] T) (kO k)
theorem holds_any (T : TypeId) (g : Nat) (av bv : Value) (f lo hi : Nat) (k : KT) (w : World) (h : (bO T g av bv f k).holds w) (hw : k.Wf lo hi) (hg : Okk k) (hN : k.M ≤ 8796093022208) :
    Calls Try.prog 52 #[.pointer (some ⟨g, 2, none⟩)] w fun e w' => e = .returned (.bool true) ∧ w' = w := by
  obtain ⟨M, hM⟩ : ∃ M, k.M = M := ⟨_, rfl⟩
  obtain ⟨Ao, co, hov⟩ := row_slice (KT.outs h.2.1)
  obtain ⟨Aw, cw, hwv⟩ := row_slice (KT.wants h.2.1)
  have HREAD := Lib.hid (fun i (hi : i < k.M) => KT.reads h.2.1 hw hi)
  have HAT := Lib.hid (fun i (hi : i < k.M) => KT.at_ h.2.1 hi)
  have HG := Lib.hid hg
  obtain ⟨-, -, b2, b3, -⟩ := h.1.five
  unfold Okk at HG
  rw [hM] at HREAD HAT HG hN hov hwv
  rw [hov] at b2
  rw [hwv] at b3
  clear hg h hM hw
  go_enter Try.func52, Try.ntmps52
  go_wp2_with fail
  go_loopw [12] (fun x12 wr => ∃ i : Nat, x12 = .int .i64 i ∧ i ≤ M ∧ w = wr) (fun x12 _ => M - (intOf x12).toNat)
  case atStart => exact ⟨0, rfl, Nat.zero_le _, rfl⟩
  case round =>
    obtain ⟨i, rfl, hin, rfl⟩ := hrel
    by_cases hlt : i < M
    · have hd : decide ((i : Int) < (M : Int)) = true := by simp; omega
      have hd' : decide (i < M) = true := by simp; omega
      obtain ⟨go, co', gw, cw', e1, e2, c0, c1⟩ := HAT.out i hlt
      rw [hov] at e1
      rw [hwv] at e2
      obtain ⟨rfl, _, rfl⟩ := Value.slice.inj e1
      obtain ⟨rfl, _, rfl⟩ := Value.slice.inj e2
      obtain ⟨s1, s2⟩ := HREAD.out i hlt
      obtain ⟨X, cx, hx⟩ := s1.len
      obtain ⟨Y, cy, hy⟩ := s2.len
      rw [hx] at c0 s1
      rw [hy] at c1 s2
      obtain ⟨hg1, hg2⟩ := HG.out i hlt
      have HS1 := Lib.hid s1
      have HS2 := Lib.hid s2
      have HGI := Lib.hid hg1
      generalize k.len i = n at *
      generalize k.xs i = xs at *
      clear s1 s2 e1 e2 hx hy hg1
      go_wp2_with fail
      go_loopw [25] (fun x25 wr => ∃ j : Nat, x25 = .int .i64 j ∧ j ≤ n ∧ w = wr) (fun x25 _ => n - (intOf x25).toNat)
      case atStart => exact ⟨0, rfl, Nat.zero_le _, rfl⟩
      case round =>
        obtain ⟨j, rfl, hjn, rfl⟩ := hrel
        by_cases hlj : j < n
        · have hd2 : decide ((j : Int) < (n : Int)) = true := by simp; omega
          have hd3 : decide (j < n) = true := by simp; omega
          obtain ⟨ad, rfl, hx, p0⟩ := Src.get HS1.out j hlj
          obtain ⟨bd, rfl, hy, p1⟩ := Src.get HS2.out j hlj
          obtain ⟨x, hxx⟩ := HGI.out.at_ hx
          rw [hxx] at p0 p1
          have hne : (x == x) = true := by simp
          clear hxx
          go_wp2_with fail
          go_roundw
          case rel => exact ⟨j + 1, rfl, by omega, trivial⟩
          case measure => simp [intOf]; omega
        · have hd2 : decide ((j : Int) < (n : Int)) = false := by simp; omega
          have hd3 : decide (j < n) = false := by simp; omega
          go_wp2_with fail
          go_roundw
          case rel => exact ⟨i + 1, rfl, by omega, trivial⟩
          case measure => simp [intOf]; omega
    · have hd : decide ((i : Int) < (M : Int)) = false := by simp; omega
      have hd' : decide (i < M) = false := by simp; omega
      go_wp2_with fail
      go_ret
      exact ⟨rfl, rfl⟩
theorem keep_any (T : TypeId) (g : Nat) (av bv : Value) (f : Nat) (k : KT) (A : Option Addr) (n c : Nat) (xs : List Value) (w : World) (h : (Hp.Own.both (Hp.Own.row 3 1 (.slice A n c) n xs) (bO T g av bv f k)).holds w) (hg : Gd xs) (hf : k.fr k.M = false) (hn : n ≤ 1000000) (hN : k.M ≤ 8796093022208) :
    Calls Try.prog 105 #[.pointer (some ⟨g, 2, none⟩), .slice A n c] w fun e w' => e = .returned (.tuple #[]) ∧ ∃ ov wv y, Turns w w' (Hp.Own.both (Hp.Own.row 3 1 (.slice A n c) n xs) (bO T g av bv f k)) (bO T g av bv f (k.add ov wv (.slice A n c) y n xs)) := by
  obtain ⟨ij, hij, hzaj, hzbj, hzcj⟩ := info_parts Try.info3
  obtain ⟨is, his, hzas, hzbs, hzcs⟩ := info_parts Try.info187
  obtain ⟨M, hM⟩ : ∃ M, k.M = M := ⟨_, rfl⟩
  obtain ⟨Ao, co, hov⟩ := row_slice (KT.outs h.2.1.2.1)
  obtain ⟨Aw, cw, hwv⟩ := row_slice (KT.wants h.2.1.2.1)
  have hN0 : k.fam 187 3 (.o k.M) = Hp.Own.emp := by simp [KT.fam, hf]
  have hC0 : k.fam 187 3 (.c k.M) = Hp.Own.emp := by simp [KT.fam, hf]
  have hT0 : Turns w w (Hp.Own.both (Hp.Own.row 3 1 (.slice A n c) n xs) (bO T g av bv f k)) (Hp.Own.both (Hp.Own.blk g #[av, bv, k.ov, k.wv, .int .i64 (f : Nat)] T) (Hp.Own.fam (upd (k.fam 187 3) (.o k.M) (Hp.Own.row 3 1 (.slice A n c) n xs)))) := by
    have t := (Turns.refl h).flip
    have t2 := Own.fam_take (F := k.fam 187 3) (A := Hp.Own.row 3 1 (.slice A n c) n xs) (.o k.M) hN0 ((Turns.refl t.n1).swap.now)
    exact t.at1 ((Turns.refl t.n1).swap.trans t2)
  obtain ⟨b0, b1, b2, b3, b4, f0, f1, f2, f3, f4, hgl⟩ := h.2.1.1.five
  rw [hov] at b2
  rw [hwv] at b3
  have HO := KT.outs h.2.1.2.1
  rw [hov] at HO
  rw [hM] at b2 b3 HO hN0 hC0 hov hwv hT0 hN hf
  have HOH := Lib.hid HO
  have HT0 := Lib.hid hT0
  have HG := Lib.hid hg
  have HOV := Lib.hid hov
  have HWV := Lib.hid hwv
  have HM := Lib.hid hM
  have HC0 := Lib.hid hC0
  clear hg h HO hT0 hN0 hC0 hM
  go_enter Try.func105, Try.ntmps105
  go_wp2_with (first
    | ((at_builtin; refine wpList_app1W _ rfl (.tmp 8) (.tmp 10) 111 rfl 187 is (.slice none 0 0) 24 Try.underlying111 his hzas hzbs hzcs rfl (.slice Ao M co) M ((List.range M).map k.out) rfl _ _ _ rfl (by first | rfl | simp) HOH.out rfl (by simp only [maxLen]; omega) (by omega) ?_; intro g4 c4 w4 hc4 ht4; have HT4 := Lib.hid ht4; clear ht4); have HF4 := Lib.hid (HT0.out.at1 (Turns.famE HT0.out.n1 .outs (by show Hp.Own.row _ _ k.ov k.M _ = _; rw [HOV.out, HM.out]) HT4.out)); have HB4 := Lib.hid HF4.out.b0; obtain ⟨q0, q1, q2, q3, q4, r0, r1, r2, r3, r4, hgl4⟩ := HB4.out.five; rw [HOV.out] at q2; rw [HWV.out] at q3))
  have HF5 := Lib.hid (HF4.out.put0 2 (.slice (some ⟨g4, 0, none⟩) (M + 1) c4))
  obtain ⟨W5, hW5⟩ : ∃ W, W = w4.setCell ⟨g, 2, none⟩ (.slice (some ⟨g4, 0, none⟩) (M + 1) c4) := ⟨_, rfl⟩
  rw [← hW5] at HF5 ⊢
  clear hW5 b0 b1 b2 b3 b4 f0 f1 f2 f3 f4 q0 q1 q2 q3 q4 r0 r1 r2 r3 r4 HB4 hgl
  have hB5 : Blk W5 g #[av, bv, .slice (some ⟨g4, 0, none⟩) (M + 1) c4, k.wv, .int .i64 (f : Nat)] T := HF5.out.b0
  obtain ⟨q0, q1, q2, q3, q4, r0, r1, r2, r3, r4, hgl5⟩ := hB5.five
  rw [HWV.out] at q3
  have hrow5 : (Hp.Own.row 3 1 (.slice A n c) n xs).holds W5 := by simpa [upd] using HF5.out.n1.1 (.o M)
  have HSR := Lib.hid (show Src W5 (.slice A n c) n 1 xs from Src.of_own (show W5.ownsRow 0 3 1 (.slice A n c) n xs from hrow5))
  clear hrow5
  clear hB5
  go_region_law (first
      | ((refine step_copyN _ rfl (.tmp 19) 187 rfl 3 ij ((.int .i64 0)) 8 Try.underlying187 hij hzaj hzbj hzcj rfl (.slice A n c) n xs rfl HSR.out HG.out.one (by simp only [maxLen]; omega) (by omega) ?_; intro A6 c6 w6 ht6; have HT6 := Lib.hid ht6; clear ht6); have HF6 := Lib.hid (HF5.out.at1 (Turns.famE HF5.out.n1 (.c M) (O := Hp.Own.emp) (by have := HC0.out; simpa [upd] using this) HT6.out.drewl)); have HWO := Lib.hid (show w6.ownsRow 0 187 1 (.slice Aw M cw) M ((List.range M).map k.want) from (by have := HF6.out.n1.1 .wants; simp only [upd, KT.fam, reduceCtorEq, if_false] at this; rw [HWV.out, HM.out] at this; exact this)); have hB6 : Blk w6 g #[av, bv, .slice (some ⟨g4, 0, none⟩) (M + 1) c4, k.wv, .int .i64 (f : Nat)] T := HF6.out.b0; obtain ⟨p0, p1, p2, p3, p4, z0, z1, z2, z3, z4, hgl6⟩ := hB6.five; rw [HWV.out] at p3; clear hB6)
      | ((refine step_app1W _ rfl (.tmp 18) (.tmp 21) 111 rfl 187 is (.slice none 0 0) 24 Try.underlying111 his hzas hzbs hzcs rfl (.slice Aw M cw) M ((List.range M).map k.want) rfl _ _ _ rfl (by first | rfl | simp) HWO.out rfl (by simp only [maxLen]; omega) (by omega) ?_; intro g7 c7 w7 hc7 ht7; have HT7 := Lib.hid ht7; clear ht7); have HF7 := Lib.hid (HF6.out.at1 (Turns.famE HF6.out.n1 .wants (by show Hp.Own.row _ _ k.wv k.M _ = _; rw [HWV.out, HM.out]) HT7.out)); have hB7 : Blk w7 g #[av, bv, .slice (some ⟨g4, 0, none⟩) (M + 1) c4, k.wv, .int .i64 (f : Nat)] T := HF7.out.b0; obtain ⟨x0, x1, x2, x3, x4, y0, y1, y2, y3, y4, hgl7⟩ := hB7.five; rw [HWV.out] at x3; clear hB7))
  all_goals
    refine bodyPost_end (results_none rfl _ _ _) rfl ?_
    refine ⟨rfl, .slice (some ⟨g4, 0, none⟩) (M + 1) c4, .slice (some ⟨g7, 0, none⟩) (M + 1) c7, .slice A6 n c6, (HF7.out.put0 3 (.slice (some ⟨g7, 0, none⟩) (M + 1) c7)).to ?_⟩
    have hm := HM.out
    subst hm
    exact congrArg (Hp.Own.both _) (Own.fam_as (KT.kept k _ _ _ _ _ _ n xs))
end Go.Proofs.Ytmpkjfengfgagaa.Ti
