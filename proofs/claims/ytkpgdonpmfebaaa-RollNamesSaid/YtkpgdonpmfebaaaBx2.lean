/- The document's writer: Bool, Bytes, Done. -/
import Derived.Test.YtkpgdonpmfebaaaBx1
namespace Go.Proofs.Ytkpgdonpmfebaaa.Bt
open Go.RowKit Go.Hp
attribute [local go_sem] min2_lean min_two max2_lean max_two
set_option linter.unusedSimpArgs false
set_option linter.unusedVariables false
set_option maxRecDepth 100000

theorem src_of_blk {w : World} {b : Nat} {cs : Array Value} {T : TypeId} (h : Blk w b cs T) (c : Nat) : Src w (.slice (some ⟨b, 0, none⟩) cs.size c) cs.size 1 cs.toList :=
  ⟨by simp, Or.inr ⟨_, c, rfl, fun j u hu => World.news_of_block h j u hu⟩⟩
theorem xbool_bad (s : WrS) (x : Bool) (w : World) (hs : s.xown.holds w) (hb : s.bad = true) :
    Calls Try.prog 66 #[.pointer (some ⟨s.g, 0, none⟩), .bool x] w fun r w' => r = .returned (.tuple #[]) ∧ Turns w w' s.xown s.xown := by
  have HS := Lib.hid hs
  clear hs
  have hb0 : Blk (w.alloc (.cells #[.int .u8 0] 5)) w.heap.size #[.int .u8 0] 5 := Blk.new _ _ _
  have hb1 : Blk (w.alloc (.cells #[.int .u8 1] 5)) w.heap.size #[.int .u8 1] 5 := Blk.new _ _ _
  have HC0 : Hid (Chg (fun _ => False) w (w.alloc (.cells #[.int .u8 0] 5))) := (Chg.refl _ _).alloc _
  have HC1 : Hid (Chg (fun _ => False) w (w.alloc (.cells #[.int .u8 1] 5))) := (Chg.refl _ _).alloc _
  have HB0 := Lib.hid (src_of_blk hb0 1)
  have HB1 := Lib.hid (src_of_blk hb1 1)
  clear hb0 hb1
  cases x
  · go_enter Try.func66, Try.ntmps66
    go_wp2_with (go_at_call 96; refine (put_bad s _ _ _ _ (Turns.keep HS.out HC0.out).now hb).mono ?_; rintro r w2 ⟨rfl, rfl⟩)
    go_end0
    exact ⟨rfl, Turns.keep HS.out HC0.out⟩
  · go_enter Try.func66, Try.ntmps66
    go_wp2_with (go_at_call 96; refine (put_bad s _ _ _ _ (Turns.keep HS.out HC1.out).now hb).mono ?_; rintro r w2 ⟨rfl, rfl⟩)
    go_end0
    exact ⟨rfl, Turns.keep HS.out HC1.out⟩
theorem xbool_ok (s : WrS) (x : Bool) (w : World) (hs : s.xown.holds w) (hb : s.bad = false) (hl : s.bs.length + 10 ≤ 140737488355328) :
    Calls Try.prog 66 #[.pointer (some ⟨s.g, 0, none⟩), .bool x] w fun r w' => r = .returned (.tuple #[]) ∧ ∃ v', Turns w w' s.xown ({ s with v := v', bs := s.bs ++ [if x then 1 else 0] } : WrS).xown := by
  have HS := Lib.hid hs
  clear hs
  have hb0 : Blk (w.alloc (.cells #[.int .u8 0] 5)) w.heap.size #[.int .u8 0] 5 := Blk.new _ _ _
  have hb1 : Blk (w.alloc (.cells #[.int .u8 1] 5)) w.heap.size #[.int .u8 1] 5 := Blk.new _ _ _
  have HC0 : Hid (Chg (fun _ => False) w (w.alloc (.cells #[.int .u8 0] 5))) := (Chg.refl _ _).alloc _
  have HC1 : Hid (Chg (fun _ => False) w (w.alloc (.cells #[.int .u8 1] 5))) := (Chg.refl _ _).alloc _
  have HB0 := Lib.hid (src_of_blk hb0 1)
  have HB1 := Lib.hid (src_of_blk hb1 1)
  clear hb0 hb1
  cases x
  · go_enter Try.func66, Try.ntmps66
    go_wp2_with (go_at_call 96; refine (put_ok s _ [0] _ (Turns.keep HS.out HC0.out).now (by exact HB0.out) hb (by simp) (by simp; omega)).mono ?_; rintro r w2 ⟨rfl, v2, ht2⟩; have HT2 := Lib.hid ht2; clear ht2)
    go_end0
    have h2 := HT2.out
    simp only [hb] at h2
    exact ⟨rfl, v2, (Turns.keep HS.out HC0.out).trans h2⟩
  · go_enter Try.func66, Try.ntmps66
    go_wp2_with (go_at_call 96; refine (put_ok s _ [1] _ (Turns.keep HS.out HC1.out).now (by exact HB1.out) hb (by simp) (by simp; omega)).mono ?_; rintro r w2 ⟨rfl, v2, ht2⟩; have HT2 := Lib.hid ht2; clear ht2)
    go_end0
    have h2 := HT2.out
    simp only [hb] at h2
    exact ⟨rfl, v2, (Turns.keep HS.out HC1.out).trans h2⟩
theorem xbytes_ok (s : WrS) (A : Option Addr) (m c : Nat) (xs : List UInt8) (w : World) (hs : s.xown.holds w) (hx : Src w (.slice A m c) m 1 (xs.map bv)) (hf : ∀ w', Chg s.xown.foot w w' → Src w' (.slice A m c) m 1 (xs.map bv))
    (hb : s.bad = false) (hl : s.bs.length + xs.length + 10 ≤ 140737488355328) :
    Calls Try.prog 69 #[.pointer (some ⟨s.g, 0, none⟩), .slice A m c] w fun r w' => r = .returned (.tuple #[]) ∧ ∃ v', Turns w w' s.xown ({ s with v := v', bs := s.bs ++ vi xs.length ++ xs } : WrS).xown := by
  obtain rfl : m = xs.length := by have := hx.1; simpa using this.symm
  have HG := Lib.hid (xnum_ok s xs.length w hs (by omega) hb (by omega))
  have HF := Lib.hid hf
  have hvp := vi_pos xs.length
  have hvl := vi_len64 xs.length (by omega)
  clear hs hx hf
  obtain ⟨m, hm⟩ : ∃ m, xs.length = m := ⟨_, rfl⟩
  rw [hm] at HG HF hvp hvl hl ⊢
  go_enter Try.func69, Try.ntmps69
  go_wp2_with (first
    | (go_at_call 63; refine HG.out.mono ?_; rintro r w1 ⟨rfl, v1, ht⟩; have HT := Lib.hid ht; clear ht)
    | (go_at_call 96; refine (put_ok (WrS.mk s.g v1 (s.bs ++ vi m) s.bad) _ xs _ HT.out.now (by rw [hm]; exact HF.out _ HT.out.chg) hb (by simp only [List.length_append]; omega) (by simp only [List.length_append]; omega)).mono ?_; rintro r w2 ⟨rfl, v2, ht2⟩))
  go_end0
  exact ⟨rfl, v2, HT.out.trans ht2⟩
theorem xbytes_bad (s : WrS) (A : Option Addr) (m c : Nat) (w : World) (hs : s.xown.holds w) (hb : s.bad = true) (hl : m ≤ 140737488355328) :
    Calls Try.prog 69 #[.pointer (some ⟨s.g, 0, none⟩), .slice A m c] w fun r w' => r = .returned (.tuple #[]) ∧ Turns w w' s.xown s.xown := by
  have HG := Lib.hid (xnum_bad s m w hs (by omega) hb)
  clear hs
  go_enter Try.func69, Try.ntmps69
  go_wp2_with (first
    | (go_at_call 63; refine HG.out.mono ?_; rintro r w1 ⟨rfl, ht⟩; have HT := Lib.hid ht; clear ht)
    | (go_at_call 96; refine (put_bad s _ _ _ _ HT.out.now hb).mono ?_; rintro r w2 ⟨rfl, rfl⟩))
  go_end0
  exact ⟨rfl, HT.out⟩
theorem xdone_bad (s : WrS) (w : World) (hs : s.xown.holds w) (hb : s.bad = true) :
    Calls Try.prog 19 #[.pointer (some ⟨s.g, 0, none⟩)] w fun r w' => r = .returned (.tuple #[.slice none 0 0, .int .i64 1]) ∧ w = w' := by
  obtain ⟨g, v, bs, bad⟩ := s
  simp only [] at hb
  subst hb
  obtain ⟨c0, c1, f0, f1⟩ := WrS.xcells hs
  simp only [] at c0 c1 f0 f1
  clear hs
  go_enter Try.func19, Try.ntmps19
  go_wp2
  go_ret2
  exact ⟨rfl, rfl⟩
theorem xdone_ok (s : WrS) (w : World) (hs : s.xown.holds w) (hb : s.bad = false) (hl : s.bs.length ≤ 140737488355328) :
    Calls Try.prog 19 #[.pointer (some ⟨s.g, 0, none⟩)] w fun r w' => ∃ o, r = .returned (.tuple #[o, .int .i64 0]) ∧ Turns w w' Own.emp (Own.row 5 1 o s.bs.length (s.bs.map bv)) := by
  obtain ⟨g, v, bs, bad⟩ := s
  simp only [] at hb hl
  subst hb
  obtain ⟨c0, c1, f0, f1⟩ := WrS.xcells hs
  simp only [] at c0 c1 f0 f1
  obtain ⟨i0, hi0, hz0, hz1, hz2⟩ := info_parts Try.info5
  have HX : Hid (Src (w.alloc (.cells #[] 5)) v bs.length 1 (bs.map bv)) := Src.of_own (Own.chg hs ((Chg.refl (fun _ => False) w).alloc (.cells #[] 5)) (fun _ _ h => h)).2.1
  have HL := Lib.hid (Turns.row_lit w Own.emp #[] 5 1 0 (by simp [maxLen]) rfl)
  have hc0 : (w.alloc (.cells #[] 5)).cell? ⟨g, 0, none⟩ = some v := (World.cell?_alloc_lt _ _ _ (show g < w.heap.size from Blk.lt hs.1)).trans c0
  clear hs
  go_enter Try.func19, Try.ntmps19
  go_wp2_with (at_builtin; refine wpList_append_src _ rfl (.tmp 8) (.tmp 12) 38 rfl 0 5 i0 (.int .u8 0) 1 1 Try.underlying38 hi0 hz0 hz1 hz2 rfl (by decide) _ 0 [] rfl HL.out.now _ bs.length (bs.map bv) rfl HX.out (by simp [bv, Value.oneCell']) (by simp only [maxLen]; omega) (by omega) (Nat.zero_le _) ?_; intro v2 w2 ho1 hg1 hat1; have HO1 := Lib.hid ho1; have HG1 := Lib.hid hg1; have HAT := Lib.hid hat1; clear ho1 hg1 hat1)
  go_ret2
  refine ⟨_, rfl, HL.out.trans (Turns.row ?_ HG1.out HAT.out)⟩
  have := HO1.out
  simpa using this
end Go.Proofs.Ytkpgdonpmfebaaa.Bt
