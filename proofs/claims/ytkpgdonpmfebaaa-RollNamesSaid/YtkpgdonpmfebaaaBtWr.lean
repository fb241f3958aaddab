/- The writer of package bits: what each function does to it. -/
import Derived.Test.YtkpgdonpmfebaaaProg
import Derived.Test.YtkpgdonpmfebaaaBtW
import Derived.Test.YtkpgdonpmfebaaaAppS
import Derived.WalkKit
import Derived.ProofKit
import Derived.BigQuiet
import Derived.Deep.QuietTactic
import Derived.Deep.RegionHeld3
import Derived.Deep.AppendLies
import Derived.StillTailTactics
import Derived.Lib.Hide
import Derived.OwnWalk
import Derived.Laws.BitsAllLaws
import Derived.Lib.Zigzag
namespace Go.Proofs.Ytkpgdonpmfebaaa.Bt
open Go.RowKit Go.Hp
attribute [local go_sem] min2_lean min_two max2_lean max_two
set_option linter.unusedSimpArgs false
set_option linter.unusedVariables false
set_option maxRecDepth 100000

theorem Try.info5 : (Try.prog.info? 5).map (fun i => (i.zero, i.size, i.bytes)) = some (some (.int .u8 0), 1, 1) := by kernel_rfl

theorem or128 (m : Nat) : bits BinOp.or IntKind.u8 ((m : Int) % 256) 128 = ((m % 128 + 128 : Nat) : Int) := by
  have h1 : ∀ a, a < 256 → a ||| 128 = a % 128 + 128 := by decide
  have h2 := u8_or_nat (m % 256) 128 (Nat.mod_lt _ (by omega)) (by omega)
  rw [h1 (m % 256) (Nat.mod_lt _ (by omega))] at h2
  rw [show (m % 128 + 128 : Nat) = (m % 256 % 128 + 128 : Nat) by omega, ← h2]
  rfl
set_option maxHeartbeats 1000000 in
theorem groups_any (s : WrS) (n : Nat) (w : World) (hs : s.own.holds w) (hn : n < 2 ^ 64) (hl : s.bs.length + 10 ≤ 140737488355328) :
    Calls Try.prog 94 #[.pointer (some ⟨s.g, 0, none⟩), .int .u64 n] w fun r w' => r = .returned (.tuple #[]) ∧ ∃ v', Turns w w' s.own ({ s with v := v', bs := s.bs ++ vi n } : WrS).own := by
  obtain ⟨g, v, bs, bad⟩ := s
  simp only [] at hl
  have HS := Lib.hid (Turns.refl hs)
  have hlen := vi_len64 n hn
  obtain ⟨i0, hi0, hz0, hz1, hz2⟩ := info_parts Try.info5
  clear hs
  have HN := Lib.hid hn
  clear hn
  go_enter Try.func94, Try.ntmps94
  go_wp2_with fail
  go_loopw [1] (fun x wr => ∃ (m : Nat) (v' : Value) (bs' : List UInt8), x = .int .u64 m ∧ m < 2 ^ 64 ∧ bs' ++ vi m = bs ++ vi n ∧ Turns w wr (WrS.mk g v bs bad).own (WrS.mk g v' bs' bad).own) (fun x _ => (intOf x).toNat)
  case atStart => exact ⟨n, v, bs, rfl, HN.out, rfl, HS.out⟩
  case round =>
    obtain ⟨m, v', bs', rfl, hm, he, ht⟩ := hrel
    have hll : bs'.length + (vi m).length ≤ bs.length + 10 := by
      have := congrArg List.length he
      simp only [List.length_append] at this
      omega
    have hvp := vi_pos m
    have HE := Lib.hid he
    have HT := Lib.hid ht
    obtain ⟨c0, c1, f0, f1⟩ := WrS.cells ht.now
    simp only [] at c0 c1 f0 f1
    clear he ht
    have hm2 : m < 18446744073709551616 := hm
    clear hm
    by_cases hlt : m < 128
    · have hd : decide ((127 : Int) < (m : Int)) = false := by simp; omega
      go_wp2_with (at_builtin; refine wpList_append_own_at _ rfl (.tmp 24) (.tmp 27) 38 rfl 0 5 i0 (.int .u8 0) 1 1 Try.underlying38 hi0 hz0 hz1 hz2 rfl (by decide) v' bs'.length (bs'.map bv) rfl (HT.out.alloc _).now.2.1 ⟨wr.heap.size, 0, none⟩ 1 1 _ rfl rfl (cell_one_new _ _ _) (by simp [Value.oneCell']) (by simp only [maxLen]; omega) (by omega) (Nat.zero_le _) ?_; intro v1 w1 ho1 hg1 _ hat1; have HA := Lib.hid (WrS.after (HT.out.alloc _) hg1); have a0 := HA.out.1; have a1 := HA.out.2.1; have HO1 := Lib.hid ho1; have HG1 := Lib.hid hg1; have HAT := Lib.hid hat1; obtain ⟨gn, cn, hvn, _, _⟩ := row_form ho1 (by omega); have HV := Lib.hid hvn; rw [hvn]; clear ho1 hg1 hat1 hvn)
      go_end0
      refine ⟨rfl, v1, ?_⟩
      rw [← HV.out]
      have hb : bv (UInt8.ofNat m) = .int .u8 (m : Int) := by unfold bv; rw [UInt8.toNat_ofNat_of_lt' (by simp [UInt8.size]; omega)]
      have := WrS.put (HT.out.alloc (.cells #[.int .u8 (m : Int)] 5)) v1 [UInt8.ofNat m] (by rw [List.map_cons, List.map_nil, hb]; exact HO1.out) HG1.out HAT.out
      rw [vi_lt hlt] at HE
      show Turns _ _ _ (WrS.mk g v1 (bs ++ vi n) bad).own
      rw [← HE.out]
      exact this
    · have hd : decide ((127 : Int) < (m : Int)) = true := by simp; omega
      go_wp2_with (at_builtin; refine wpList_append_own_at _ rfl (.tmp 10) (.tmp 14) 38 rfl 0 5 i0 (.int .u8 0) 1 1 Try.underlying38 hi0 hz0 hz1 hz2 rfl (by decide) v' bs'.length (bs'.map bv) rfl (HT.out.alloc _).now.2.1 ⟨wr.heap.size, 0, none⟩ 1 1 _ rfl rfl (cell_one_new _ _ _) (by simp [Value.oneCell']) (by simp only [maxLen]; omega) (by omega) (Nat.zero_le _) ?_; intro v1 w1 ho1 hg1 _ hat1; have HA := Lib.hid (WrS.after (HT.out.alloc _) hg1); have a0 := HA.out.1; have a1 := HA.out.2.1; have HO1 := Lib.hid ho1; have HG1 := Lib.hid hg1; have HAT := Lib.hid hat1; obtain ⟨gn, cn, hvn, _, _⟩ := row_form ho1 (by omega); have HV := Lib.hid hvn; rw [hvn]; clear ho1 hg1 hat1 hvn)
      have hb : bv (UInt8.ofNat (m % 128 + 128)) = .int .u8 (bits BinOp.or IntKind.u8 ((m : Int) % 256) 128) := by rw [or128]; unfold bv; rw [UInt8.toNat_ofNat_of_lt' (by simp [UInt8.size]; omega)]
      have HP := Lib.hid (WrS.put (HT.out.alloc (.cells #[.int .u8 (bits BinOp.or IntKind.u8 ((m : Int) % 256) 128)] 5)) v1 [UInt8.ofNat (m % 128 + 128)] (by rw [List.map_cons, List.map_nil, hb]; exact HO1.out) HG1.out HAT.out)
      rw [vi_ge hlt] at HE
      have HE2 := Lib.hid (show (bs' ++ [UInt8.ofNat (m % 128 + 128)]) ++ vi (m / 128) = bs ++ vi n by rw [← HE.out]; simp)
      rw [HV.out] at HP
      clear hb
      go_wp2_with fail
      go_roundw
      case rel => exact ⟨m / 128, _, _, by simp, by omega, HE2.out, HP.out⟩
      case measure => simp [intOf]; omega
theorem newW_any (w : World) : Calls Try.prog 15 #[] w fun r w' => r = .returned (.pointer (some ⟨w.heap.size, 0, none⟩)) ∧ Turns w w' Own.emp (WrS.mk w.heap.size (.slice none 0 0) [] false).own := by
  go_enter Try.func15, Try.ntmps15
  go_wp2
  go_ret
  refine ⟨rfl, (Chg.refl _ _).alloc _, ⟨Blk.new _ _ _, World.ownsRow_nil _ _ _ _, fun b _ h2 => by cases h2⟩, ?_⟩
  rintro b (hb | hb)
  · exact Or.inr (by have hb : b = w.heap.size := hb; omega)
  · cases hb
theorem num_neg (s : WrS) (n : Int) (w : World) (hs : s.own.holds w) (hn : n < 0) :
    Calls Try.prog 59 #[.pointer (some ⟨s.g, 0, none⟩), .int .i64 n] w fun r w' => r = .returned (.tuple #[]) ∧ Turns w w' s.own ({ s with bad := true } : WrS).own := by
  obtain ⟨g, v, bs, bad⟩ := s
  obtain ⟨c0, c1, f0, f1⟩ := WrS.cells hs
  simp only [] at c0 c1 f0 f1
  have hd : decide (n < 0) = true := by simpa using hn
  have HS := Lib.hid hs
  clear hs
  go_enter Try.func59, Try.ntmps59
  go_wp2
  go_end0
  have hne : ∀ b, b = g → v.ownBlock = some b → False := fun b h1 h2 => HS.out.2.2 b h1 h2
  refine ⟨rfl, Chg.set (Chg.refl _ _) (p := ⟨g, 1, none⟩) (Or.inr (Or.inl rfl)) _, ⟨?_, ?_, HS.out.2.2⟩, fun b hb => Or.inl hb⟩
  · show Blk _ g #[v, .bool true] 106
    simpa using Blk.set HS.out.1 1 (.bool true)
  · exact row_heap HS.out.2.1 fun b hb => Below.heap_setCell _ _ _ _ (fun e => hne b e hb)
theorem num_bad (s : WrS) (n : Int) (w : World) (hs : s.own.holds w) (hn : 0 ≤ n) (hb : s.bad = true) :
    Calls Try.prog 59 #[.pointer (some ⟨s.g, 0, none⟩), .int .i64 n] w fun r w' => r = .returned (.tuple #[]) ∧ w = w' := by
  obtain ⟨g, v, bs, bad⟩ := s
  simp only [] at hb
  subst hb
  obtain ⟨c0, c1, f0, f1⟩ := WrS.cells hs
  simp only [] at c0 c1 f0 f1
  have hd : decide (n < 0) = false := by simp; omega
  clear hs
  go_enter Try.func59, Try.ntmps59
  go_wp2
  go_end0
  exact ⟨rfl, rfl⟩
theorem num_ok (s : WrS) (n : Nat) (w : World) (hs : s.own.holds w) (hn : n < 2 ^ 63) (hb : s.bad = false) (hl : s.bs.length + 10 ≤ 140737488355328) :
    Calls Try.prog 59 #[.pointer (some ⟨s.g, 0, none⟩), .int .i64 n] w fun r w' => r = .returned (.tuple #[]) ∧ ∃ v', Turns w w' s.own ({ s with v := v', bs := s.bs ++ vi n } : WrS).own := by
  obtain ⟨g, v, bs, bad⟩ := s
  simp only [] at hb
  subst hb
  have HG := Lib.hid (groups_any (WrS.mk g v bs false) n w hs (by omega) hl)
  obtain ⟨c0, c1, f0, f1⟩ := WrS.cells hs
  simp only [] at c0 c1 f0 f1
  have hd : decide ((n : Int) < 0) = false := by simp
  have hn2 : n < 9223372036854775808 := hn
  clear hs hn
  go_enter Try.func59, Try.ntmps59
  go_wp2_with (go_at_call 94; refine HG.out.mono ?_; rintro r w1 ⟨rfl, v1, ht⟩)
  go_end0
  exact ⟨rfl, v1, ht⟩
end Go.Proofs.Ytkpgdonpmfebaaa.Bt
