/- The law's kept lists of bytes: keep, holds, spoil. -/
import Derived.Test.YtkpgdonpmfebaaaKq
import Derived.Test.YtkpgdonpmfebaaaBlL
import Derived.Deep.RegionHeld3
import Derived.Deep.RegionLaw
namespace Go.Proofs.Ytkpgdonpmfebaaa.Bt.Kb
open Go.RowKit Go.Hp
set_option linter.unusedSimpArgs false
set_option linter.unusedVariables false
set_option maxRecDepth 100000
attribute [local go_sem] min2_lean min_two max2_lean max_two
theorem Try.info38 : (Try.prog.info? 38).map (fun i => (i.zero, i.size, i.bytes)) = some (some (.slice none 0 0), 1, 24) := by kernel_rfl
/-- A list of what may be compared with itself. -/
def Gd (xs : List Value) : Prop := ∃ bs : List UInt8, xs = bs.map bv
theorem Gd.one {xs : List Value} (h : Gd xs) : ∀ u ∈ xs, u.oneCell' = true := by
  obtain ⟨zs, rfl⟩ := h
  simp [bv, Value.oneCell']
theorem Src.keepC {w w' : World} {v : Value} {n : Nat} {xs : List Value} (h : Src w v n 1 xs) (hb : ∀ b, v.ownBlock = some b → b < w.heap.size) (hc : Chg (fun _ => False) w w') : Src w' v n 1 xs :=
  Src.stay h fun b hf => hc.block b (hb b hf) (fun h => h)
theorem copied_src (A : Option Addr) (n c : Nat) (xs : List Value) (w : World) (hs : Src w (.slice A n c) n 1 xs) (hb : ∀ b, (Value.slice A n c).ownBlock = some b → b < w.heap.size) (hg : Gd xs) (hn : n ≤ 140737488355328) :
    Calls Try.prog 70 #[.slice A n c] w fun e w' => ∃ X cx, e = .returned (.slice X n cx) ∧ Turns w w' Hp.Own.emp (Hp.Own.row 5 1 (.slice X n cx) n xs) := by
  obtain ⟨bs, rfl⟩ := hg
  refine (copied_any A n c bs w hs (by omega)).mono ?_
  rintro e w' ⟨rfl, ht⟩
  exact ⟨_, _, rfl, ht⟩
theorem same_src (A B : Option Addr) (n c d : Nat) (xs : List Value) (w : World) (hs : Src w (.slice A n c) n 1 xs) (ht : Src w (.slice B n d) n 1 xs) (hg : Gd xs) (hn : n ≤ 140737488355328) :
    Calls Try.prog 20 #[.slice A n c, .slice B n d] w fun e w' => e = .returned (.bool true) ∧ ∃ q, w.drewN q = w' := by
  obtain ⟨bs, rfl⟩ := hg
  refine (same_any A B n n c d bs bs w hs ht (by omega)).mono ?_
  rintro e w' ⟨rfl, q, hq⟩
  exact ⟨by simp, q, hq⟩
abbrev own (k : KS) (N d : Nat) : Hp.Own := k.own 34 38 5 N d
def Okk (k : KS) (M : Nat) : Prop := ∀ i, i < M → Gd (k.xs i) ∧ k.len i ≤ 140737488351300
theorem holds_any (k : KS) (N d : Nat) (w : World) (h : (own k N d).holds w) (hd : d ≤ N) (hg : Okk k (N + d)) (hN : N + d ≤ 7036874417562) :
    Calls Try.prog 22 #[.pointer (some ⟨k.g, 0, none⟩)] w fun e w' => e = .returned (.bool true) ∧ Chg (fun _ => False) w w' := by
  obtain ⟨M, hM⟩ : ∃ M, N + d = M := ⟨_, rfl⟩
  obtain ⟨Ao, co, hov⟩ := row_slice (KS.outs h)
  obtain ⟨Aw, cw, hwv⟩ := row_slice (KS.wants h)
  have HREAD := Lib.hid (fun W (hc : Chg (fun _ => False) w W) i (hi : i < N + d) => KS.reads (Own.fam_chg h hc) hd hi)
  have HAT := Lib.hid (fun W (hc : Chg (fun _ => False) w W) i (hi : i < N + d) => KS.at_ (Own.fam_chg h hc) hi)
  have HBOX := Lib.hid (fun W (hc : Chg (fun _ => False) w W) => KS.box (Own.fam_chg h hc))
  have HG := Lib.hid hg
  rw [hM] at HREAD HAT HG hN hov hwv
  clear hg h hM
  go_enter Try.func22, Try.ntmps22
  go_wp2_with fail
  go_loopw [3] (fun x3 wr => ∃ i : Nat, x3 = .int .i64 i ∧ i ≤ M ∧ Chg (fun _ => False) w wr) (fun x3 _ => M - (intOf x3).toNat)
  case atStart => exact ⟨0, rfl, Nat.zero_le _, Chg.refl _ _⟩
  case round =>
    obtain ⟨i, rfl, hin, hc⟩ := hrel
    have HC := Lib.hid hc
    have b0 := (HBOX.out _ hc).cell 0
    have b1 := (HBOX.out _ hc).cell 1
    rw [hov, hwv] at b0 b1
    simp only [List.getElem?_toArray, List.getElem?_cons_succ, List.getElem?_cons_zero] at b0 b1
    clear hc
    by_cases hlt : i < M
    · have hd : decide ((i : Int) < (M : Int)) = true := by simp; omega
      have hd' : decide (i < M) = true := by simp; omega
      obtain ⟨go, co', gw, cw', e1, e2, c0, c1⟩ := HAT.out _ HC.out i hlt
      rw [hov] at e1
      rw [hwv] at e2
      obtain ⟨rfl, _, rfl⟩ := Value.slice.inj e1
      obtain ⟨rfl, _, rfl⟩ := Value.slice.inj e2
      obtain ⟨s1, s2⟩ := HREAD.out _ HC.out i hlt
      obtain ⟨X, cx, hx⟩ := s1.len
      obtain ⟨Y, cy, hy⟩ := s2.len
      rw [hx] at c0
      rw [hy] at c1
      obtain ⟨hg1, hg2⟩ := HG.out i hlt
      have HSA := Lib.hid (fun W (hc : Chg (fun _ => False) wr W) => (show Src W (.slice X (k.len i) cx) (k.len i) 1 (k.xs i) ∧ Src W (.slice Y (k.len i) cy) (k.len i) 1 (k.xs i) from by rw [← hx, ← hy]; exact HREAD.out _ (HC.out.trans hc) i hlt))
      have HGI := Lib.hid hg1
      generalize k.len i = n at *
      generalize k.xs i = xs at *
      clear s1 s2 e1 e2 hx hy hg1
      go_wp2_with fail
      go_region_held3 (fun w' => w'.cell? ⟨k.g, 0, none⟩ = some (.slice (some ⟨go, 0, none⟩) M co) ∧ w'.cell? ⟨k.g, 1, none⟩ = some (.slice (some ⟨gw, 0, none⟩) M cw) ∧ w'.cell? ⟨go, i, none⟩ = some (.slice X n cx) ∧ w'.cell? ⟨gw, i, none⟩ = some (.slice Y n cy)) (go_keep)
        (first
          | (go_at_call 20; (with_reducible refine (same_src X Y n cx cy xs _ ?_ ?_ HGI.out (by omega)).mono ?_); exact (HSA.out _ ((Chg.refl _ _).drewN _)).1; exact (HSA.out _ ((Chg.refl _ _).drewN _)).2; rintro r w3 ⟨rfl, q3, rfl⟩))
      go_wp2_with fail
      go_roundw
      case rel => exact ⟨i + 1, by simp, by omega, HC.out.drewN _⟩
      case measure => simp [intOf]; omega
    · have hd : decide ((i : Int) < (M : Int)) = false := by simp; omega
      have hd' : decide (i < M) = false := by simp; omega
      go_wp2_with fail
      go_ret
      exact ⟨rfl, HC.out⟩
theorem keep_any (k : KS) (N : Nat) (A : Option Addr) (n c : Nat) (xs : List Value) (w : World) (h : (Hp.Own.both (own k N 0) (Hp.Own.row 5 1 (.slice A n c) n xs)).holds w) (hg : Gd xs) (hn : n ≤ 140737488351300) (hN : N ≤ 3518437208781) :
    Calls Try.prog 21 #[.pointer (some ⟨k.g, 0, none⟩), .slice A n c] w fun e w' => e = .returned (.tuple #[]) ∧ ∃ ov wv y, Turns w w' (Hp.Own.both (own k N 0) (Hp.Own.row 5 1 (.slice A n c) n xs)) (own (k.add N ov wv (.slice A n c) y n xs) (N + 1) 0) := by
  obtain ⟨is, his, hzas, hzbs, hzcs⟩ := info_parts Try.info38
  obtain ⟨Ao, co, hov⟩ := row_slice (KS.outs h.1)
  obtain ⟨Aw, cw, hwv⟩ := row_slice (KS.wants h.1)
  have hN0 : k.fam 34 38 5 N 0 (.o N) = Hp.Own.emp := by simp [KS.fam]
  have hT0 := Own.fam_take (F := k.fam 34 38 5 N 0) (.o N) hN0 h
  have b0 := (KS.box h.1).cell 0
  have b1 := (KS.box h.1).cell 1
  have f0 := (KS.box h.1).frozen 0
  rw [hov, Nat.add_zero] at b0
  rw [hwv, Nat.add_zero] at b1
  simp only [List.getElem?_toArray, List.getElem?_cons_succ, List.getElem?_cons_zero] at b0 b1
  have HO := KS.outs h.1
  rw [hov, Nat.add_zero] at HO
  have HOH := Lib.hid HO
  have HT0 := Lib.hid hT0
  have HG := Lib.hid hg
  have HOV := Lib.hid hov
  have HWV := Lib.hid hwv
  clear hg h HO hT0 hN0
  go_enter Try.func21, Try.ntmps21
  go_wp2_with (first
    | ((at_builtin; refine wpList_app1 _ rfl (.tmp 8) (.tmp 10) 32 rfl 38 is (.slice none 0 0) 1 24 Try.underlying32 his hzas hzbs hzcs rfl (by decide) (.slice Ao N co) N ((List.range N).map k.out) rfl _ _ _ rfl (by first | rfl | simp) HOH.out rfl (by simp [Value.oneCell']) (by simp only [maxLen]; omega) (by omega) ?_; intro g4 c4 w4 hc4 ht4; have HT4 := Lib.hid ht4; clear ht4); have HF4 := Lib.hid (HT0.out.trans (Turns.famE HT0.out.now .outs (by show Hp.Own.row _ _ k.ov (N + 0) _ = _; rw [HOV.out, Nat.add_zero]) HT4.out)); have hB4 : Blk w4 k.g #[k.ov, k.wv] 34 := HF4.out.now.1 .box; have hb0 := hB4.cell 0; have hf0 := hB4.frozen 0; rw [HOV.out] at hb0; simp only [List.getElem?_toArray, List.getElem?_cons_succ, List.getElem?_cons_zero] at hb0; have HB4 := Lib.hid hB4; clear hB4))
  have HF5 := Lib.hid (HF4.out.trans (Turns.famE HF4.out.now .box (O := Hp.Own.blk k.g #[k.ov, k.wv] 34) rfl (Turns.blk_set HB4.out 0 (.slice (some ⟨g4, 0, none⟩) (N + 1) c4))))
  obtain ⟨W5, hW5⟩ : ∃ W, W = w4.setCell ⟨k.g, 0, none⟩ (.slice (some ⟨g4, 0, none⟩) (N + 1) c4) := ⟨_, rfl⟩
  rw [← hW5] at HF5 ⊢
  clear hW5 hb0 hf0 b0 b1 f0
  have hB5 : Blk W5 k.g #[.slice (some ⟨g4, 0, none⟩) (N + 1) c4, k.wv] 34 := HF5.out.now.1 .box
  have hb1 := hB5.cell 1
  rw [HWV.out, Nat.add_zero] at hb1
  simp only [List.getElem?_toArray, List.getElem?_cons_succ, List.getElem?_cons_zero] at hb1
  have hl5 : (Hp.Own.row 5 1 (.slice A n c) n xs).holds W5 := by
    have := HF5.out.now.1 (.o N)
    simpa [upd] using this
  have HL5 := Lib.hid hl5
  have HCO := Lib.hid (fun W (hc : Chg (fun _ => False) W5 W) => copied_src A n c xs W (Src.of_own (show W.ownsRow 0 5 1 (.slice A n c) n xs from Own.chg HL5.out hc (fun _ _ h => h))) (fun b hb => Nat.lt_of_lt_of_le (Own.lt _ HL5.out b hb) hc.size) HG.out (by omega))
  clear hl5 hB5
  go_region_law (first
      | (go_simp; go_at_call 70; (with_reducible refine (HCO.out _ ?_).mono ?_); exact (Chg.refl _ _).drew; rintro r w6 ⟨Y, cy, rfl, ht6⟩; have HF6 := Lib.hid (HF5.out.trans (Turns.famE HF5.out.now (.c N) (O := Hp.Own.emp) (by simp [upd, KS.fam]) ht6.drewl)); clear ht6; have HWO := Lib.hid (show w6.ownsRow 0 38 1 (.slice Aw N cw) N ((List.range N).map k.want) from (by have := HF6.out.now.1 .wants; simp only [upd, KS.fam, reduceCtorEq, if_false, Nat.add_zero] at this; rw [HWV.out, Nat.add_zero] at this; exact this)); have hB6 : Blk w6 k.g #[.slice (some ⟨g4, 0, none⟩) (N + 1) c4, k.wv] 34 := HF6.out.now.1 .box; have hl6 := hB6.lt; have hb6 := hB6.cell 1; have hf6 := hB6.frozen 1; rw [HWV.out, Nat.add_zero] at hb6; simp only [List.getElem?_toArray, List.getElem?_cons_succ, List.getElem?_cons_zero] at hb6; clear hB6)
      | ((refine step_app1 _ rfl (.tmp 18) (.tmp 21) 32 rfl 38 is (.slice none 0 0) 24 Try.underlying32 his hzas hzbs hzcs rfl (.slice Aw N cw) N ((List.range N).map k.want) rfl _ _ _ rfl (by first | rfl | simp) HWO.out (by simp [Value.oneCell']) (by simp only [maxLen]; omega) (by omega) ?_; intro g7 c7 w7 hc7 ht7; have HT7 := Lib.hid ht7; clear ht7); have HF7 := Lib.hid (HF6.out.trans (Turns.famE HF6.out.now .wants (by show Hp.Own.row _ _ k.wv (N + 0) _ = _; rw [HWV.out, Nat.add_zero]) HT7.out)); have HB7 := Lib.hid (show Blk w7 k.g #[.slice (some ⟨g4, 0, none⟩) (N + 1) c4, k.wv] 34 from HF7.out.now.1 .box); have hl7 := HB7.out.lt; have hb7 := HB7.out.cell 1; have hf7 := HB7.out.frozen 1; rw [HWV.out, Nat.add_zero] at hb7; simp only [List.getElem?_toArray, List.getElem?_cons_succ, List.getElem?_cons_zero] at hb7))
  all_goals
    refine bodyPost_end (results_none rfl _ _ _) rfl ?_
    exact ⟨rfl, _, _, .slice Y n cy, (HF7.out.trans (Turns.famE HF7.out.now .box (O := Hp.Own.blk k.g #[.slice (some ⟨g4, 0, none⟩) (N + 1) c4, k.wv] 34) rfl (Turns.blk_set HB7.out 1 (.slice (some ⟨g7, 0, none⟩) (N + 1) c7)))).to (Own.fam_as (KS.kept k _ _ _ N _ _ _ _ n xs _))⟩
end Go.Proofs.Ytkpgdonpmfebaaa.Bt.Kb
