/- The writer of package bits: Bool, Bytes, Done. -/
import Derived.Test.YtkpgdonpmfebaaaBtW2
namespace Go.Proofs.Ytkpgdonpmfebaaa.Bt
open Go.RowKit Go.Hp
attribute [local go_sem] min2_lean min_two max2_lean max_two
set_option linter.unusedSimpArgs false
set_option linter.unusedVariables false
set_option maxRecDepth 100000

theorem bool_bad (s : WrS) (x : Bool) (w : World) (hs : s.own.holds w) (hb : s.bad = true) :
    Calls Try.prog 65 #[.pointer (some ⟨s.g, 0, none⟩), .bool x] w fun r w' => r = .returned (.tuple #[]) ∧ w = w' := by
  obtain ⟨g, v, bs, bad⟩ := s
  simp only [] at hb
  subst hb
  obtain ⟨c0, c1, f0, f1⟩ := WrS.cells hs
  simp only [] at c0 c1 f0 f1
  clear hs
  go_enter Try.func65, Try.ntmps65
  go_wp2
  refine bodyPost_ret (results_none rfl _ _ _) rfl ?_
  exact ⟨rfl, rfl⟩
theorem bv_one : bv 1 = .int .u8 1 := rfl
theorem bv_zero : bv 0 = .int .u8 0 := rfl
theorem bool_ok (s : WrS) (x : Bool) (w : World) (hs : s.own.holds w) (hb : s.bad = false) (hl : s.bs.length + 10 ≤ 140737488355328) :
    Calls Try.prog 65 #[.pointer (some ⟨s.g, 0, none⟩), .bool x] w fun r w' => r = .returned (.tuple #[]) ∧ ∃ v', Turns w w' s.own ({ s with v := v', bs := s.bs ++ [if x then 1 else 0] } : WrS).own := by
  obtain ⟨g, v, bs, bad⟩ := s
  simp only [] at hb hl
  subst hb
  have HS := Lib.hid (Turns.refl hs)
  obtain ⟨c0, c1, f0, f1⟩ := WrS.cells hs
  simp only [] at c0 c1 f0 f1
  obtain ⟨i0, hi0, hz0, hz1, hz2⟩ := info_parts Try.info5
  clear hs
  go_enter Try.func65, Try.ntmps65
  cases x
  · go_wp2_with (at_builtin; refine wpList_append_own_at _ rfl (.tmp 22) (.tmp 23) 38 rfl 0 5 i0 (.int .u8 0) 1 1 Try.underlying38 hi0 hz0 hz1 hz2 rfl (by decide) v bs.length (bs.map bv) rfl (HS.out.alloc _).now.2.1 ⟨w.heap.size, 0, none⟩ 1 1 _ rfl rfl (cell_one_new _ _ _) (by simp [Value.oneCell']) (by simp only [maxLen]; omega) (by omega) (Nat.zero_le _) ?_; intro v1 w1 ho1 hg1 _ hat1; have HA := Lib.hid (WrS.after (HS.out.alloc _) hg1); have a0 := HA.out.1; have a1 := HA.out.2.1; have HO1 := Lib.hid ho1; have HG1 := Lib.hid hg1; have HAT := Lib.hid hat1; obtain ⟨gn, cn, hvn, _, _⟩ := row_form ho1 (by omega); have HV := Lib.hid hvn; rw [hvn]; clear ho1 hg1 hat1 hvn)
    go_end0
    refine ⟨rfl, v1, ?_⟩
    rw [← HV.out]
    exact WrS.put (HS.out.alloc (.cells #[.int .u8 0] 5)) v1 [0] (by exact HO1.out) HG1.out HAT.out
  · go_wp2_with (at_builtin; refine wpList_append_own_at _ rfl (.tmp 13) (.tmp 14) 38 rfl 0 5 i0 (.int .u8 0) 1 1 Try.underlying38 hi0 hz0 hz1 hz2 rfl (by decide) v bs.length (bs.map bv) rfl (HS.out.alloc _).now.2.1 ⟨w.heap.size, 0, none⟩ 1 1 _ rfl rfl (cell_one_new _ _ _) (by simp [Value.oneCell']) (by simp only [maxLen]; omega) (by omega) (Nat.zero_le _) ?_; intro v1 w1 ho1 hg1 _ hat1; have HA := Lib.hid (WrS.after (HS.out.alloc _) hg1); have a0 := HA.out.1; have a1 := HA.out.2.1; have HO1 := Lib.hid ho1; have HG1 := Lib.hid hg1; have HAT := Lib.hid hat1; obtain ⟨gn, cn, hvn, _, _⟩ := row_form ho1 (by omega); have HV := Lib.hid hvn; rw [hvn]; clear ho1 hg1 hat1 hvn)
    refine bodyPost_ret (results_none rfl _ _ _) rfl ?_
    refine ⟨rfl, v1, ?_⟩
    rw [← HV.out]
    exact WrS.put (HS.out.alloc (.cells #[.int .u8 1] 5)) v1 [1] (by exact HO1.out) HG1.out HAT.out
theorem bytes_bad (s : WrS) (A : Option Addr) (m c : Nat) (w : World) (hs : s.own.holds w) (hb : s.bad = true) :
    Calls Try.prog 68 #[.pointer (some ⟨s.g, 0, none⟩), .slice A m c] w fun r w' => r = .returned (.tuple #[]) ∧ w = w' := by
  obtain ⟨g, v, bs, bad⟩ := s
  simp only [] at hb
  subst hb
  obtain ⟨c0, c1, f0, f1⟩ := WrS.cells hs
  simp only [] at c0 c1 f0 f1
  clear hs
  go_enter Try.func68, Try.ntmps68
  go_wp2
  go_end0
  exact ⟨rfl, rfl⟩
set_option maxHeartbeats 1000000 in
theorem bytes_ok (s : WrS) (A : Option Addr) (m c : Nat) (xs : List UInt8) (w : World) (hs : s.own.holds w) (hx : Src w (.slice A m c) m 1 (xs.map bv)) (hf : ∀ w', Chg s.own.foot w w' → Src w' (.slice A m c) m 1 (xs.map bv))
    (hb : s.bad = false) (hl : s.bs.length + xs.length + 10 ≤ 140737488355328) :
    Calls Try.prog 68 #[.pointer (some ⟨s.g, 0, none⟩), .slice A m c] w fun r w' => r = .returned (.tuple #[]) ∧ ∃ v', Turns w w' s.own ({ s with v := v', bs := s.bs ++ vi xs.length ++ xs } : WrS).own := by
  obtain ⟨g, v, bs, bad⟩ := s
  simp only [] at hb hl hf
  subst hb
  obtain rfl : m = xs.length := by have := hx.1; simpa using this.symm
  have HG := Lib.hid (groups_any (WrS.mk g v bs false) xs.length w hs (by omega) (by simp only []; omega))
  obtain ⟨c0, c1, f0, f1⟩ := WrS.cells hs
  simp only [] at c0 c1 f0 f1
  obtain ⟨i0, hi0, hz0, hz1, hz2⟩ := info_parts Try.info5
  have hvl := vi_len64 xs.length (by omega)
  have hvp := vi_pos xs.length
  have HF := Lib.hid hf
  clear hs hx hf
  generalize hvi : vi xs.length = vx at *
  generalize hxl : xs.length = m at *
  go_enter Try.func68, Try.ntmps68
  go_wp2_with (first
    | (go_at_call 94; refine HG.out.mono ?_; rintro r w1 ⟨rfl, v1, ht⟩; have HT := Lib.hid ht; have c0' := (WrS.cells ht.now).1; have f0' := (WrS.cells ht.now).2.2.1; clear ht; simp only [] at c0' f0')
    | (at_builtin; refine wpList_append_src _ rfl (.tmp 18) (.tmp 19) 38 rfl 0 5 i0 (.int .u8 0) 1 1 Try.underlying38 hi0 hz0 hz1 hz2 rfl (by decide) v1 (bs ++ vx).length ((bs ++ vx).map bv) rfl HT.out.now.2.1 _ m (xs.map bv) rfl (HF.out _ HT.out.chg) (by simp [bv, Value.oneCell']) (by simp only [maxLen, List.length_append]; omega) (by simp only [List.length_append]; omega) (Nat.zero_le _) ?_; intro v2 w2 ho1 hg1 hat1; have HA := Lib.hid (WrS.after HT.out hg1); have a0 := HA.out.1; have a1 := HA.out.2.1; have HO1 := Lib.hid ho1; have HG1 := Lib.hid hg1; have HAT := Lib.hid hat1; obtain ⟨gn, cn, hvn, _, _⟩ := row_form ho1 (by simp only [List.length_append]; omega); have HV := Lib.hid hvn; rw [hvn]; clear ho1 hg1 hat1 hvn))
  go_end0
  refine ⟨rfl, v2, ?_⟩
  have hv := HV.out
  rw [List.length_append] at hv
  rw [← hv]
  have := WrS.put HT.out v2 xs (by rw [hxl]; exact HO1.out) HG1.out HAT.out
  simpa using this
theorem Turns.made {w w1 : World} {E : TypeId} {size n c : Nat} {xs : List Value} (h : w1.ownsRow 0 E size (.slice (some ⟨w.heap.size, 0, none⟩) n c) n xs) (hg : w.grownBy w1 none) :
    Turns w w1 Own.emp (Own.row E size (.slice (some ⟨w.heap.size, 0, none⟩) n c) n xs) :=
  ⟨Chg.mono (Chg.of_grown hg) (fun _ _ h => by cases h), h, fun b hb => by
    have hb : some w.heap.size = some b := hb
    cases hb; exact Or.inr (Nat.le_refl _)⟩
theorem done_bad (s : WrS) (w : World) (hs : s.own.holds w) (hb : s.bad = true) :
    Calls Try.prog 18 #[.pointer (some ⟨s.g, 0, none⟩)] w fun r w' => r = .returned (.tuple #[.slice none 0 0, .int .i64 1]) ∧ w = w' := by
  obtain ⟨g, v, bs, bad⟩ := s
  simp only [] at hb
  subst hb
  obtain ⟨c0, c1, f0, f1⟩ := WrS.cells hs
  simp only [] at c0 c1 f0 f1
  clear hs
  go_enter Try.func18, Try.ntmps18
  go_wp2
  go_ret2
  exact ⟨rfl, rfl⟩
set_option maxHeartbeats 1000000 in
theorem done_ok (s : WrS) (w : World) (hs : s.own.holds w) (hb : s.bad = false) (hl : s.bs.length ≤ 140737488355328) :
    Calls Try.prog 18 #[.pointer (some ⟨s.g, 0, none⟩)] w fun r w' => ∃ o, r = .returned (.tuple #[o, .int .i64 0]) ∧ Turns w w' Own.emp (Own.row 5 1 o s.bs.length (s.bs.map bv)) ∧ o.ownBlock = some w.heap.size := by
  obtain ⟨g, v, bs, bad⟩ := s
  simp only [] at hb hl
  subst hb
  obtain ⟨c0, c1, f0, f1⟩ := WrS.cells hs
  simp only [] at c0 c1 f0 f1
  obtain ⟨i0, hi0, hz0, hz1, hz2⟩ := info_parts Try.info5
  have HS := Lib.hid hs
  have hvf : ∃ A c, v = .slice A bs.length c := (Src.of_own hs.2.1).len
  obtain ⟨A, c, rfl⟩ := hvf
  clear hs
  generalize hbl : bs.length = m at *
  go_enter Try.func18, Try.ntmps18
  go_wp2_with (first
    | (at_make; refine wpList_make_full _ rfl _ _ 38 rfl 0 5 i0 (.int .u8 0) 1 Try.underlying38 hi0 hz0 hz1 .i64 .i64 m m m rfl rfl rfl rfl (by rw [hz2]; omega) (by simp only [maxLen]; omega) (Nat.zero_le _) ?_; intro w1 ho1 hg1; have HO1 := Lib.hid ho1; have HG1 := Lib.hid hg1; have HS1 := Lib.hid (Own.chg HS.out (Chg.of_grown hg1) (fun _ _ h => by cases h)); have c0' := (WrS.cells HS1.out).1; simp only [] at c0'; clear ho1 hg1)
    | (refine wpList_copy_all _ rfl (.tmp 15) (.tmp 19) 38 38 rfl 5 Try.underlying38 (by rw [hi0]; simp [hz1]) _ 0 m _ rfl HO1.out _ (bs.map bv) rfl (by have := Src.of_own HS1.out.2.1; simp only [hbl] at this; exact this) (by simp [bv, Value.oneCell']) ?_; intro w2 ho2 hg2; have HO2 := Lib.hid ho2; have HG2 := Lib.hid hg2; clear ho2 hg2))
  go_ret2
  refine ⟨_, rfl, (Turns.made HO1.out HG1.out).trans (Turns.row HO2.out HG2.out (Or.inl rfl)), rfl⟩
end Go.Proofs.Ytkpgdonpmfebaaa.Bt
