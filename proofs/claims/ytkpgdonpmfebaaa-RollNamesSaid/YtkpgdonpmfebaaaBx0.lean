/- The document's writer: what each of its functions does to it. -/
import Derived.Test.YtkpgdonpmfebaaaBtW3
namespace Go.Proofs.Ytkpgdonpmfebaaa.Bt
open Go.RowKit Go.Hp
attribute [local go_sem] min2_lean min_two max2_lean max_two
set_option linter.unusedSimpArgs false
set_option linter.unusedVariables false
set_option maxRecDepth 100000

/-- The document's writer: as the program's, of another type. -/
def WrS.xown (s : WrS) : Own := Own.both (Own.blk s.g #[s.v, .bool s.bad] 108) (Own.row 5 1 s.v s.bs.length (s.bs.map bv))
theorem WrS.xcells {s : WrS} {w : World} (h : s.xown.holds w) : w.cell? ⟨s.g, 0, none⟩ = some s.v ∧ w.cell? ⟨s.g, 1, none⟩ = some (.bool s.bad) ∧ w.frozen? ⟨s.g, 0, none⟩ = false ∧ w.frozen? ⟨s.g, 1, none⟩ = false :=
  ⟨Blk.cell h.1 0, Blk.cell h.1 1, Blk.frozen h.1 0, Blk.frozen h.1 1⟩
theorem WrS.xafter {s : WrS} {w W W1 : World} {O : Own} (h : Turns w W O s.xown) (hg : W.grownBy W1 s.v.ownBlock) : W1.cell? ⟨s.g, 0, none⟩ = some s.v ∧ W1.frozen? ⟨s.g, 0, none⟩ = false ∧ W1.cell? ⟨s.g, 1, none⟩ = some (.bool s.bad) := by
  have hb1 : Blk W1 s.g #[s.v, .bool s.bad] 108 := Blk.chg h.now.1 (Chg.of_grown hg) (fun e => h.now.2.2 s.g rfl e)
  exact ⟨hb1.cell 0, hb1.frozen 0, hb1.cell 1⟩
theorem WrS.xput {s : WrS} {w W W1 : World} {O : Own} (h : Turns w W O s.xown) (v1 : Value) (cs : List UInt8) (h1 : W1.ownsRow 0 5 1 v1 (s.bs.length + cs.length) ((s.bs.map bv) ++ cs.map bv)) (hg : W.grownBy W1 s.v.ownBlock)
    (hat : v1.ownBlock = s.v.ownBlock ∨ v1.ownBlock = some W.heap.size) : Turns w (W1.setCell ⟨s.g, 0, none⟩ v1) O ({ s with v := v1, bs := s.bs ++ cs } : WrS).xown := by
  have hgl : s.g < W.heap.size := Blk.lt h.now.1
  have hgs := hg.size
  have hb1 : Blk W1 s.g #[s.v, .bool s.bad] 108 := Blk.chg h.now.1 (Chg.of_grown hg) (fun e => h.now.2.2 s.g rfl e)
  have hne : v1.ownBlock ≠ some s.g := by
    rcases hat with e | e
    · rw [e]; exact fun hh => h.now.2.2 s.g rfl hh
    · rw [e]; intro hh; have := Option.some.inj hh; omega
  refine h.trans ⟨?_, ⟨?_, ?_, ?_⟩, ?_⟩
  · exact Chg.set (S := s.xown.foot) (Chg.mono (T := s.xown.foot) (Chg.of_grown hg) (fun k _ hk => Or.inr hk)) (p := ⟨s.g, 0, none⟩) (Or.inr (Or.inl rfl)) _
  · show Blk _ s.g #[v1, .bool s.bad] 108
    simpa using hb1.set 0 v1
  · show (W1.setCell ⟨s.g, 0, none⟩ v1).ownsRow 0 5 1 v1 (s.bs ++ cs).length ((s.bs ++ cs).map bv)
    rw [List.length_append, List.map_append]
    exact row_heap h1 fun b hb => Below.heap_setCell _ _ _ _ (fun e => hne (by rw [hb, e]))
  · exact fun b hb1 hb2 => hne (by rw [show b = s.g from hb1] at hb2; exact hb2)
  · rintro b (hb | hb)
    · exact Or.inl (Or.inl hb)
    · have hb : v1.ownBlock = some b := hb
      rcases hat with e | e
      · exact Or.inl (Or.inr (show s.v.ownBlock = some b by rw [← e]; exact hb))
      · rw [e] at hb; cases hb; exact Or.inr (Nat.le_refl _)
theorem xnewW_any (w : World) : Calls Try.prog 16 #[] w fun r w' => r = .returned (.pointer (some ⟨w.heap.size, 0, none⟩)) ∧ Turns w w' Own.emp (WrS.mk w.heap.size (.slice none 0 0) [] false).xown := by
  go_enter Try.func16, Try.ntmps16
  go_wp2
  go_ret
  refine ⟨rfl, (Chg.refl _ _).alloc _, ⟨Blk.new _ _ _, World.ownsRow_nil _ _ _ _, fun b _ h2 => by cases h2⟩, ?_⟩
  rintro b (hb | hb)
  · exact Or.inr (by have hb : b = w.heap.size := hb; omega)
  · cases hb
theorem row_step {w W W1 : World} {n : Nat} {v v1 : Value} {bs cs : List UInt8} (h : Turns w W Own.emp (Own.row 5 1 v bs.length (bs.map bv))) (h1 : W1.ownsRow 0 5 1 v1 (bs.length + cs.length) ((bs.map bv) ++ cs.map bv)) (hg : W.grownBy W1 v.ownBlock)
    (hat : v1.ownBlock = v.ownBlock ∨ v1.ownBlock = some W.heap.size) : Turns w W1 Own.emp (Own.row 5 1 v1 (bs ++ cs).length ((bs ++ cs).map bv)) := by
  refine h.trans (Turns.row ?_ hg hat)
  rw [List.length_append, List.map_append]
  exact h1
set_option maxHeartbeats 1000000 in
theorem xgroups_any (n : Nat) (w : World) (hn : n < 2 ^ 64) :
    Calls Try.prog 97 #[.int .u64 n] w fun r w' => ∃ v, r = .returned v ∧ Turns w w' Own.emp (Own.row 5 1 v (vi n).length ((vi n).map bv)) := by
  have hlen := vi_len64 n hn
  obtain ⟨i0, hi0, hz0, hz1, hz2⟩ := info_parts Try.info5
  have HN := Lib.hid hn
  clear hn
  go_enter Try.func97, Try.ntmps97
  go_wp2_with fail
  go_loopw [0, 3] (fun x x3 wr => ∃ (m : Nat) (bs : List UInt8), x = .int .u64 m ∧ m < 2 ^ 64 ∧ bs ++ vi m = vi n ∧ Turns w wr Own.emp (Own.row 5 1 x3 bs.length (bs.map bv))) (fun x _ _ => (intOf x).toNat)
  case atStart => exact ⟨n, [], rfl, HN.out, rfl, Chg.refl _ _, World.ownsRow_nil _ _ _ _, fun b hb => by cases hb⟩
  case round =>
    obtain ⟨m, bs, rfl, hm, he, ht⟩ := hrel
    have hll : bs.length + (vi m).length ≤ 10 := by
      have := congrArg List.length he
      simp only [List.length_append] at this
      omega
    have hvp := vi_pos m
    have HE := Lib.hid he
    have HT := Lib.hid ht
    clear he ht
    have hm2 : m < 18446744073709551616 := hm
    clear hm
    obtain ⟨L, hL⟩ : ∃ L, bs.length = L := ⟨_, rfl⟩
    rw [hL] at hll
    by_cases hlt : m < 128
    · have hd : decide (127 < m) = false := by simp; omega
      go_wp2_with (at_builtin; refine wpList_append_own_at _ rfl (.tmp 15) (.tmp 18) 38 rfl 0 5 i0 (.int .u8 0) 1 1 Try.underlying38 hi0 hz0 hz1 hz2 rfl (by decide) _ bs.length (bs.map bv) rfl (HT.out.alloc _).now ⟨wr.heap.size, 0, none⟩ 1 1 _ rfl rfl (cell_one_new _ _ _) (by simp [Value.oneCell']) (by simp only [maxLen]; omega) (by omega) (Nat.zero_le _) ?_; intro v1 w1 ho1 hg1 _ hat1; have HO1 := Lib.hid ho1; have HG1 := Lib.hid hg1; have HAT := Lib.hid hat1; clear ho1 hg1 hat1)
      go_ret
      have hb : bv (UInt8.ofNat m) = .int .u8 (m : Int) := by unfold bv; rw [UInt8.toNat_ofNat_of_lt' (by simp [UInt8.size]; omega)]
      have := row_step (n := 0) (HT.out.alloc (.cells #[.int .u8 (m : Int)] 5)) (cs := [UInt8.ofNat m]) (by rw [List.map_cons, List.map_nil, hb]; exact HO1.out) HG1.out HAT.out
      rw [vi_lt hlt] at HE
      rw [HE.out] at this
      exact ⟨_, rfl, this⟩
    · have hd : decide (127 < m) = true := by simp; omega
      go_wp2_with (at_builtin; refine wpList_append_own_at _ rfl (.tmp 6) (.tmp 11) 38 rfl 0 5 i0 (.int .u8 0) 1 1 Try.underlying38 hi0 hz0 hz1 hz2 rfl (by decide) _ bs.length (bs.map bv) rfl (HT.out.alloc _).now ⟨wr.heap.size, 0, none⟩ 1 1 _ rfl rfl (cell_one_new _ _ _) (by simp [Value.oneCell']) (by simp only [maxLen]; omega) (by omega) (Nat.zero_le _) ?_; intro v1 w1 ho1 hg1 _ hat1; have HO1 := Lib.hid ho1; have HG1 := Lib.hid hg1; have HAT := Lib.hid hat1; clear ho1 hg1 hat1)
      have hb : bv (UInt8.ofNat (m % 128 + 128)) = .int .u8 ((m : Int) % 128 + 128) := by unfold bv; rw [UInt8.toNat_ofNat_of_lt' (by simp [UInt8.size]; omega)]; simp
      have HP := Lib.hid (row_step (n := 0) (HT.out.alloc (.cells #[.int .u8 ((m : Int) % 128 + 128)] 5)) (cs := [UInt8.ofNat (m % 128 + 128)]) (by rw [List.map_cons, List.map_nil, hb]; exact HO1.out) HG1.out HAT.out)
      rw [vi_ge hlt] at HE
      have HE2 := Lib.hid (show (bs ++ [UInt8.ofNat (m % 128 + 128)]) ++ vi (m / 128) = vi n by rw [← HE.out]; simp)
      go_roundw
      case rel => exact ⟨m / 128, _, by simp, by omega, HE2.out, HP.out⟩
      case measure => simp [intOf]; omega
set_option maxHeartbeats 1000000 in
theorem put_ok (s : WrS) (x : Value) (xs : List UInt8) (w : World) (hs : s.xown.holds w) (hx : Src w x xs.length 1 (xs.map bv)) (hb : s.bad = false) (hp : 1 ≤ s.bs.length + xs.length) (hl : s.bs.length + xs.length ≤ 140737488355328) :
    Calls Try.prog 96 #[.pointer (some ⟨s.g, 0, none⟩), x] w fun r w' => r = .returned (.tuple #[]) ∧ ∃ v', Turns w w' s.xown ({ s with v := v', bs := s.bs ++ xs } : WrS).xown := by
  obtain ⟨g, v, bs, bad⟩ := s
  simp only [] at hb hl hp
  subst hb
  obtain ⟨c0, c1, f0, f1⟩ := WrS.xcells hs
  simp only [] at c0 c1 f0 f1
  obtain ⟨i0, hi0, hz0, hz1, hz2⟩ := info_parts Try.info5
  have HS := Lib.hid (Turns.refl hs)
  have HX := Lib.hid hx
  obtain ⟨A, c, rfl⟩ := hx.len
  clear hs hx
  go_enter Try.func96, Try.ntmps96
  go_wp2_with (at_builtin; refine wpList_append_src _ rfl (.tmp 13) (.tmp 14) 38 rfl 0 5 i0 (.int .u8 0) 1 1 Try.underlying38 hi0 hz0 hz1 hz2 rfl (by decide) v bs.length (bs.map bv) rfl HS.out.now.2.1 _ xs.length (xs.map bv) rfl HX.out (by simp [bv, Value.oneCell']) (by simp only [maxLen]; omega) (by omega) (Nat.zero_le _) ?_; intro v2 w2 ho1 hg1 hat1; have HA := Lib.hid (WrS.xafter HS.out hg1); have a0 := HA.out.1; have a1 := HA.out.2.1; have HO1 := Lib.hid ho1; have HG1 := Lib.hid hg1; have HAT := Lib.hid hat1; obtain ⟨gn, cn, hvn, _, _⟩ := row_form ho1 (by omega); have HV := Lib.hid hvn; rw [hvn]; clear ho1 hg1 hat1 hvn)
  go_end0
  refine ⟨rfl, v2, ?_⟩
  rw [← HV.out]
  exact WrS.xput HS.out v2 xs HO1.out HG1.out HAT.out
theorem put_bad (s : WrS) (A : Option Addr) (n c : Nat) (w : World) (hs : s.xown.holds w) (hb : s.bad = true) :
    Calls Try.prog 96 #[.pointer (some ⟨s.g, 0, none⟩), .slice A n c] w fun r w' => r = .returned (.tuple #[]) ∧ w = w' := by
  obtain ⟨g, v, bs, bad⟩ := s
  simp only [] at hb
  subst hb
  obtain ⟨c0, c1, f0, f1⟩ := WrS.xcells hs
  simp only [] at c0 c1 f0 f1
  clear hs
  go_enter Try.func96, Try.ntmps96
  go_wp2
  go_end0
  exact ⟨rfl, rfl⟩
theorem Turns.addr {w w' : World} {O A : Own} (h : O.holds w) (t : Turns w w' Own.emp A) : Turns w w' O O := ⟨t.chg.mono fun _ _ hf => hf.elim, Own.chg h t.chg (fun _ _ hf => hf), fun _ hb => Or.inl hb⟩
theorem xnum_neg (s : WrS) (n : Int) (w : World) (hs : s.xown.holds w) (hn : n < 0) :
    Calls Try.prog 63 #[.pointer (some ⟨s.g, 0, none⟩), .int .i64 n] w fun r w' => r = .returned (.tuple #[]) ∧ Turns w w' s.xown ({ s with bad := true } : WrS).xown := by
  obtain ⟨g, v, bs, bad⟩ := s
  obtain ⟨c0, c1, f0, f1⟩ := WrS.xcells hs
  simp only [] at c0 c1 f0 f1
  have hd : decide (n < 0) = true := by simpa using hn
  have HS := Lib.hid hs
  clear hs
  go_enter Try.func63, Try.ntmps63
  go_wp2
  refine bodyPost_ret (results_none rfl _ _ _) rfl ?_
  have hne : ∀ b, b = g → v.ownBlock = some b → False := fun b h1 h2 => HS.out.2.2 b h1 h2
  refine ⟨rfl, Chg.set (Chg.refl _ _) (p := ⟨g, 1, none⟩) (Or.inr (Or.inl rfl)) _, ⟨?_, ?_, HS.out.2.2⟩, fun b hb => Or.inl hb⟩
  · show Blk _ g #[v, .bool true] 108
    simpa using Blk.set HS.out.1 1 (.bool true)
  · exact row_heap HS.out.2.1 fun b hb => Below.heap_setCell _ _ _ _ (fun e => hne b e hb)
/-- Behind 'put' of groups. -/
theorem xnum_ok (s : WrS) (n : Nat) (w : World) (hs : s.xown.holds w) (hn : n < 2 ^ 63) (hb : s.bad = false) (hl : s.bs.length + 10 ≤ 140737488355328) :
    Calls Try.prog 63 #[.pointer (some ⟨s.g, 0, none⟩), .int .i64 n] w fun r w' => r = .returned (.tuple #[]) ∧ ∃ v', Turns w w' s.xown ({ s with v := v', bs := s.bs ++ vi n } : WrS).xown := by
  have HG := Lib.hid (xgroups_any n w (by omega))
  have hd : decide ((n : Int) < 0) = false := by simp
  have hn2 : n < 9223372036854775808 := hn
  have hvl := vi_len64 n (by omega)
  have hvp := vi_pos n
  have HS := Lib.hid hs
  clear hs hn
  go_enter Try.func63, Try.ntmps63
  go_wp2_with (first
    | (go_at_call 97; refine HG.out.mono ?_; rintro r w1 ⟨v1, rfl, ht⟩; have HT := Lib.hid ht; obtain ⟨A, c, rfl⟩ := (Src.of_own ht.now).len; clear ht)
    | (go_at_call 96; refine (put_ok s _ (vi n) _ (Turns.addr HS.out HT.out).now (Src.of_own HT.out.now) hb (by omega) (by omega)).mono ?_; rintro r w2 ⟨rfl, v2, ht2⟩; have HT2 := Lib.hid ht2; clear ht2))
  go_end0
  exact ⟨rfl, v2, (Turns.addr HS.out HT.out).trans HT2.out⟩
theorem xnum_bad (s : WrS) (n : Nat) (w : World) (hs : s.xown.holds w) (hn : n < 2 ^ 63) (hb : s.bad = true) :
    Calls Try.prog 63 #[.pointer (some ⟨s.g, 0, none⟩), .int .i64 n] w fun r w' => r = .returned (.tuple #[]) ∧ Turns w w' s.xown s.xown := by
  have HG := Lib.hid (xgroups_any n w (by omega))
  have hd : decide ((n : Int) < 0) = false := by simp
  have hn2 : n < 9223372036854775808 := hn
  have HS := Lib.hid hs
  clear hs hn
  go_enter Try.func63, Try.ntmps63
  go_wp2_with (first
    | (go_at_call 97; refine HG.out.mono ?_; rintro r w1 ⟨v1, rfl, ht⟩; have HT := Lib.hid ht; obtain ⟨A, c, rfl⟩ := (Src.of_own ht.now).len; clear ht)
    | (go_at_call 96; refine (put_bad s _ _ _ _ (Turns.addr HS.out HT.out).now hb).mono ?_; rintro r w2 ⟨rfl, rfl⟩))
  go_end0
  exact ⟨rfl, Turns.addr HS.out HT.out⟩
end Go.Proofs.Ytkpgdonpmfebaaa.Bt
