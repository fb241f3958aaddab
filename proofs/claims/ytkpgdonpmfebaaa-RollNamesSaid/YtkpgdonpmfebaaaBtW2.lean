/- The writer of package bits: Signed, Text. -/
import Derived.Test.YtkpgdonpmfebaaaBtWr
namespace Go.Proofs.Ytkpgdonpmfebaaa.Bt
open Go.RowKit Go.Hp
attribute [local go_sem] min2_lean min_two max2_lean max_two
set_option linter.unusedSimpArgs false
set_option linter.unusedVariables false
set_option maxRecDepth 100000

/-- A number with its sign, as the program folds it. -/
def zz (n : Int) : Nat := if n < 0 then (-(n + 1)).toNat * 2 + 1 else n.toNat * 2
theorem zz_lt (n : Int) (h0 : -9223372036854775808 ≤ n) (h1 : n ≤ 9223372036854775807) : zz n < 2 ^ 64 := by
  unfold zz
  split <;> omega
theorem zz_bits (n : Int) (h0 : -9223372036854775808 ≤ n) (h1 : n ≤ 9223372036854775807) :
    bits BinOp.xor IntKind.u64 (IntKind.u64.wrap (IntKind.u64.wrap n * 2)) (IntKind.u64.wrap (n / 9223372036854775808)) = ((zz n : Nat) : Int) := by
  by_cases hn : n < 0
  · have e1 : IntKind.u64.wrap (IntKind.u64.wrap n * 2) = (((2 * n + 18446744073709551616).toNat : Nat) : Int) := by
      rw [IntKind.wrap_u64, IntKind.wrap_u64]
      omega
    have e2 : IntKind.u64.wrap (n / 9223372036854775808) = ((2 ^ 64 - 1 : Nat) : Int) := by
      rw [show n / 9223372036854775808 = -1 by omega]
      decide
    rw [e1, e2, bits_xor_u64_nat _ _ (by omega) (by decide), Nat.xor_comm, Lib.xor_ones64 _ (by omega)]
    unfold zz
    rw [if_pos hn]
    omega
  · have e1 : IntKind.u64.wrap (IntKind.u64.wrap n * 2) = (((2 * n).toNat : Nat) : Int) := by
      rw [IntKind.wrap_u64, IntKind.wrap_u64]
      omega
    have e2 : IntKind.u64.wrap (n / 9223372036854775808) = ((0 : Nat) : Int) := by
      rw [show n / 9223372036854775808 = 0 by omega]
      decide
    rw [e1, e2, bits_xor_u64_nat _ _ (by omega) (by decide), Nat.xor_zero]
    unfold zz
    rw [if_neg hn]
    omega
theorem signed_ok (s : WrS) (n : Int) (w : World) (hs : s.own.holds w) (hn0 : -9223372036854775808 ≤ n) (hn1 : n ≤ 9223372036854775807) (hb : s.bad = false) (hl : s.bs.length + 10 ≤ 140737488355328) :
    Calls Try.prog 60 #[.pointer (some ⟨s.g, 0, none⟩), .int .i64 n] w fun r w' => r = .returned (.tuple #[]) ∧ ∃ v', Turns w w' s.own ({ s with v := v', bs := s.bs ++ vi (zz n) } : WrS).own := by
  obtain ⟨g, v, bs, bad⟩ := s
  simp only [] at hb
  subst hb
  have HG := Lib.hid (groups_any (WrS.mk g v bs false) (zz n) w hs (zz_lt n hn0 hn1) hl)
  have HZ := Lib.hid (zz_bits n hn0 hn1)
  obtain ⟨c0, c1, f0, f1⟩ := WrS.cells hs
  simp only [] at c0 c1 f0 f1
  clear hs
  go_enter Try.func60, Try.ntmps60
  go_wp2_with (go_at_call 94; rw [HZ.out]; refine HG.out.mono ?_; rintro r w1 ⟨rfl, v1, ht⟩)
  go_end0
  exact ⟨rfl, v1, ht⟩
theorem signed_bad (s : WrS) (n : Int) (w : World) (hs : s.own.holds w) (hb : s.bad = true) :
    Calls Try.prog 60 #[.pointer (some ⟨s.g, 0, none⟩), .int .i64 n] w fun r w' => r = .returned (.tuple #[]) ∧ w = w' := by
  obtain ⟨g, v, bs, bad⟩ := s
  simp only [] at hb
  subst hb
  obtain ⟨c0, c1, f0, f1⟩ := WrS.cells hs
  simp only [] at c0 c1 f0 f1
  clear hs
  go_enter Try.func60, Try.ntmps60
  go_wp2
  go_end0
  exact ⟨rfl, rfl⟩
theorem text_bad (s : WrS) (x : ByteArray) (w : World) (hs : s.own.holds w) (hb : s.bad = true) :
    Calls Try.prog 61 #[.pointer (some ⟨s.g, 0, none⟩), .string x] w fun r w' => r = .returned (.tuple #[]) ∧ w = w' := by
  obtain ⟨g, v, bs, bad⟩ := s
  simp only [] at hb
  subst hb
  obtain ⟨c0, c1, f0, f1⟩ := WrS.cells hs
  simp only [] at c0 c1 f0 f1
  clear hs
  go_enter Try.func61, Try.ntmps61
  go_wp2
  go_end0
  exact ⟨rfl, rfl⟩
theorem strCells_bv (x : ByteArray) : Lib.strCells x = x.data.toList.map bv := rfl
set_option maxHeartbeats 1000000 in
theorem text_ok (s : WrS) (x : ByteArray) (w : World) (hs : s.own.holds w) (hb : s.bad = false) (hl : s.bs.length + x.size + 10 ≤ 140737488355328) :
    Calls Try.prog 61 #[.pointer (some ⟨s.g, 0, none⟩), .string x] w fun r w' => r = .returned (.tuple #[]) ∧ ∃ v', Turns w w' s.own ({ s with v := v', bs := s.bs ++ vi x.size ++ x.data.toList } : WrS).own := by
  obtain ⟨g, v, bs, bad⟩ := s
  simp only [] at hb hl
  subst hb
  have HG := Lib.hid (groups_any (WrS.mk g v bs false) x.size w hs (by omega) (by simp only []; omega))
  obtain ⟨c0, c1, f0, f1⟩ := WrS.cells hs
  simp only [] at c0 c1 f0 f1
  obtain ⟨i0, hi0, hz0, hz1, hz2⟩ := info_parts Try.info5
  have hvl := vi_len64 x.size (by omega)
  clear hs
  have hvp := vi_pos x.size
  generalize hvi : vi x.size = vx at *
  go_enter Try.func61, Try.ntmps61
  go_wp2_with (first
    | (go_at_call 94; refine HG.out.mono ?_; rintro r w1 ⟨rfl, v1, ht⟩; have HT := Lib.hid ht; have c0' := (WrS.cells ht.now).1; have f0' := (WrS.cells ht.now).2.2.1; clear ht; simp only [] at c0' f0')
    | (at_builtin; refine wpList_append_string_at _ rfl (.tmp 18) (.tmp 19) 38 9 rfl 0 5 i0 Try.underlying38 Try.underlying9 hi0 hz0 hz1 hz2 v1 (bs ++ vx).length ((bs ++ vx).map bv) rfl HT.out.now.2.1 x rfl (by simp only [maxLen, List.length_append]; omega) (by simp only [List.length_append]; omega) (Nat.zero_le _) ?_; intro v2 w2 ho1 hg1 hat1; have HA := Lib.hid (WrS.after HT.out hg1); have a0 := HA.out.1; have a1 := HA.out.2.1; have HO1 := Lib.hid ho1; have HG1 := Lib.hid hg1; have HAT := Lib.hid hat1; obtain ⟨gn, cn, hvn, _, _⟩ := row_form ho1 (by simp only [List.length_append]; omega); have HV := Lib.hid hvn; rw [hvn]; clear ho1 hg1 hat1 hvn))
  go_end0
  refine ⟨rfl, v2, ?_⟩
  have hv := HV.out
  rw [List.length_append] at hv
  rw [← hv]
  have := WrS.put HT.out v2 x.data.toList (by rw [← strCells_bv]; rw [show x.data.toList.length = x.size by rw [Array.length_toList]; rfl]; exact HO1.out) HG1.out HAT.out
  simpa using this
end Go.Proofs.Ytkpgdonpmfebaaa.Bt
