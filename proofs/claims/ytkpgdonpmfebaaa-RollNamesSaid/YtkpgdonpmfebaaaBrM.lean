/- The reader of package bits: its methods. -/
import Derived.Test.YtkpgdonpmfebaaaBrE
import Derived.Lib.Zigzag
import Derived.Laws.IdiomStrings
namespace Go.Proofs.Ytkpgdonpmfebaaa.Bt
open Go.RowKit Go.Hp
attribute [local go_sem] min2_lean min_two max2_lean max_two
set_option linter.unusedSimpArgs false
set_option linter.unusedVariables false
set_option maxRecDepth 100000

theorem rnum_ok (r : RdS) (most : Int) (w : World) (hs : r.own.holds w) (he : r.e = 0) (ha : r.at_ ≤ r.bs.length) (hl : r.bs.length < 4611686018427387904) :
    Calls Try.prog 38 #[.pointer (some ⟨r.g, 0, none⟩), .int .i64 most] w fun q w' =>
      q = .returned (.int .i64 (numOf most 13 r.bs r.at_).1) ∧ Turns w w' r.own (ItS.mk 0 r (numOf most 13 r.bs r.at_).2.1 (numOf most 13 r.bs r.at_).2.2).ended.own := by
  have HB := Lib.hid (begin_any r w hs)
  clear hs
  generalize hF : (ItS.mk 0 r (numOf most 13 r.bs r.at_).2.1 (numOf most 13 r.bs r.at_).2.2).ended = F
  have HF := Lib.hid hF
  clear hF
  go_enter_defers Try.func38, Try.ntmps38
  go_wp2_with (first
    | (go_at_call 80; refine HB.out.mono ?_; rintro q w1 ⟨x, rfl, ht1⟩; have HT1 := Lib.hid ht1; clear ht1)
    | (go_at_call 83; refine (num_item_ok (ItS.mk x r r.at_ r.e) most 13 _ HT1.out.now he ha hl (by decide)).mono ?_; rintro q w2 ⟨rfl, ht2⟩; have HT2 := Lib.hid ht2; clear ht2))
  refine leaves_cons (f := 100) (args := #[.pointer (some ⟨x, 0, none⟩)]) (by simp) (by simp [go_sem]) ?_
  refine (end_any _ _ HT2.out.now .returning).mono ?_
  rintro e u' w'' ⟨rfl, rfl, ht3⟩
  exact ⟨_, results_tmp rfl _ _ _, rfl, by rw [← HF.out]; exact (HT1.out.trans HT2.out).trans ht3⟩
theorem rnum_err (r : RdS) (most : Int) (w : World) (hs : r.own.holds w) (he : (r.e == 0) = false) :
    Calls Try.prog 38 #[.pointer (some ⟨r.g, 0, none⟩), .int .i64 most] w fun q w' => q = .returned (.int .i64 0) ∧ Turns w w' r.own r.own := by
  have HB := Lib.hid (begin_any r w hs)
  clear hs
  go_enter_defers Try.func38, Try.ntmps38
  go_wp2_with (first
    | (go_at_call 80; refine HB.out.mono ?_; rintro q w1 ⟨x, rfl, ht1⟩; have HT1 := Lib.hid ht1; clear ht1)
    | (go_at_call 83; refine (num_item_err (ItS.mk x r r.at_ r.e) most 13 _ HT1.out.now he).mono ?_; rintro q w2 ⟨rfl, rfl⟩))
  refine leaves_cons (f := 100) (args := #[.pointer (some ⟨x, 0, none⟩)]) (by simp) (by simp [go_sem]) ?_
  refine (end_any _ _ HT1.out.now .returning).mono ?_
  rintro e u' w'' ⟨rfl, rfl, ht3⟩
  have hF : (ItS.mk x r r.at_ r.e).ended = r := by rw [ItS.ended, if_neg (by simpa using he)]
  rw [hF] at ht3
  exact ⟨_, results_tmp rfl _ _ _, rfl, HT1.out.trans ht3⟩
/-- A number with its sign, read back. -/
def uz (n : Nat) : Int := if n % 2 = 0 then ((n / 2 : Nat) : Int) else -((n / 2 : Nat) : Int) - 1
theorem uz_bits (n : Nat) (hn : n < 2 ^ 64) :
    bits BinOp.xor IntKind.i64 (IntKind.i64.wrap ((n : Int) / 2)) (IntKind.i64.wrap (-IntKind.i64.wrap (bits BinOp.and IntKind.u64 (n : Int) 1))) = uz n := by
  rw [Lib.u64_and1 (n : Int) (by omega) (by omega), show IntKind.i64.wrap ((n : Int) / 2) = ((n / 2 : Nat) : Int) by rw [IntKind.wrap_i64]; omega]
  have hm : (n : Int) % 2 = ((n % 2 : Nat) : Int) := by omega
  unfold uz
  rcases Nat.mod_two_eq_zero_or_one n with h | h
  · rw [hm, h, if_pos rfl]
    have h1 : bits BinOp.xor IntKind.i64 ((n / 2 : Nat) : Int) 0 = ((n / 2 : Nat) : Int) := by
      have : n / 2 < 9223372036854775808 := by omega
      show IntKind.i64.wrap ((BitVec.ofInt 64 ((n / 2 : Nat) : Int) ^^^ BitVec.ofInt 64 0).toNat : Int) = _
      have h2 : (BitVec.ofInt 64 ((n / 2 : Nat) : Int)).toNat = n / 2 := by
        rw [BitVec.ofInt_natCast, BitVec.toNat_ofNat]; exact Nat.mod_eq_of_lt (by omega)
      rw [BitVec.toNat_xor, h2, show (BitVec.ofInt 64 0).toNat = 0 by decide, Nat.xor_zero, IntKind.wrap_i64]
      omega
    exact h1
  · rw [hm, h, if_neg (by omega)]
    have h1 : bits BinOp.xor IntKind.i64 ((n / 2 : Nat) : Int) (-1) = -((n / 2 : Nat) : Int) - 1 := by
      rw [← Lib.i64_not (n / 2) (by omega)]
      show IntKind.i64.wrap ((BitVec.ofInt 64 _ ^^^ BitVec.ofInt 64 _).toNat : Int) = IntKind.i64.wrap ((BitVec.ofInt 64 _ ^^^ BitVec.ofInt 64 _).toNat : Int)
      rw [BitVec.xor_comm]
    exact h1
theorem rsigned_ok (r : RdS) (w : World) (hs : r.own.holds w) (he : r.e = 0) (ha : r.at_ ≤ r.bs.length) (hl : r.bs.length < 4611686018427387904) :
    Calls Try.prog 62 #[.pointer (some ⟨r.g, 0, none⟩)] w fun q w' =>
      q = .returned (.int .i64 (if (gr 10 1 r.bs 10 0 0 r.at_).2.2 = 0 then uz (gr 10 1 r.bs 10 0 0 r.at_).1 else 0)) ∧ Turns w w' r.own (ItS.mk 0 r (gr 10 1 r.bs 10 0 0 r.at_).2.1 (gr 10 1 r.bs 10 0 0 r.at_).2.2).ended.own := by
  have HB := Lib.hid (begin_any r w hs)
  clear hs
  have hv := gr_val10 r.bs 10 0 0 r.at_ rfl (by decide) (by omega)
  have HGR : Hid (∀ x w1, (ItS.mk x r r.at_ r.e).own.holds w1 → Calls Try.prog 95 #[.pointer (some ⟨x, 0, none⟩), .int .i64 10, .int .u8 1] w1 fun r_1 w' =>
      r_1 = .returned (.int .u64 (gr 10 1 r.bs 10 0 0 r.at_).1) ∧ Turns w1 w' (ItS.mk x r r.at_ r.e).own (ItS.mk x r (gr 10 1 r.bs 10 0 0 r.at_).2.1 (gr 10 1 r.bs 10 0 0 r.at_).2.2).own) :=
    fun x w1 h => groups_ok (ItS.mk x r r.at_ r.e) 10 1 w1 h he ha hl (by omega) (by omega) (by omega)
  generalize gr 10 1 r.bs 10 0 0 r.at_ = G at *
  obtain ⟨n, a, e⟩ := G
  simp only [] at hv HGR ⊢
  generalize hF : (ItS.mk 0 r a e).ended = F
  have HF := Lib.hid hF
  clear hF
  by_cases h0 : e = 0
  · subst h0
    have HU := Lib.hid (uz_bits n (hv rfl))
    rw [if_pos rfl]
    go_enter_defers Try.func62, Try.ntmps62
    go_wp2_with (first
      | (go_at_call 80; refine HB.out.mono ?_; rintro q w1 ⟨x, rfl, ht1⟩; have HT1 := Lib.hid ht1; clear ht1)
      | (go_at_call 95; refine (HGR.out x _ HT1.out.now).mono ?_; rintro q w2 ⟨rfl, ht2⟩; have HT2 := Lib.hid ht2; have k2 := (ItS.cells ht2.now).2.2.1; clear ht2; simp only [] at k2))
    refine leaves_cons (f := 100) (args := #[.pointer (some ⟨x, 0, none⟩)]) (by simp) (by simp [go_sem]) ?_
    refine (end_any _ _ HT2.out.now .returning).mono ?_
    rintro e u' w'' ⟨rfl, rfl, ht3⟩
    exact ⟨_, results_tmp rfl _ _ _, by rw [← HU.out]; simp only [IntWalk.i64_left]; rfl, by rw [← HF.out]; exact (HT1.out.trans HT2.out).trans ht3⟩
  · have hd : (e != 0) = true := by simpa using h0
    rw [if_neg h0]
    go_enter_defers Try.func62, Try.ntmps62
    go_wp2_with (first
      | (go_at_call 80; refine HB.out.mono ?_; rintro q w1 ⟨x, rfl, ht1⟩; have HT1 := Lib.hid ht1; clear ht1)
      | (go_at_call 95; refine (HGR.out x _ HT1.out.now).mono ?_; rintro q w2 ⟨rfl, ht2⟩; have HT2 := Lib.hid ht2; have k2 := (ItS.cells ht2.now).2.2.1; clear ht2; simp only [] at k2))
    refine leaves_cons (f := 100) (args := #[.pointer (some ⟨x, 0, none⟩)]) (by simp) (by simp [go_sem]) ?_
    refine (end_any _ _ HT2.out.now .returning).mono ?_
    rintro e u' w'' ⟨rfl, rfl, ht3⟩
    exact ⟨_, results_tmp rfl _ _ _, rfl, by rw [← HF.out]; exact (HT1.out.trans HT2.out).trans ht3⟩
theorem rsigned_err (r : RdS) (w : World) (hs : r.own.holds w) (he : (r.e == 0) = false) :
    Calls Try.prog 62 #[.pointer (some ⟨r.g, 0, none⟩)] w fun q w' => q = .returned (.int .i64 0) ∧ Turns w w' r.own r.own := by
  have HB := Lib.hid (begin_any r w hs)
  have hd : (r.e != 0) = true := by simpa using he
  clear hs
  go_enter_defers Try.func62, Try.ntmps62
  go_wp2_with (first
    | (go_at_call 80; refine HB.out.mono ?_; rintro q w1 ⟨x, rfl, ht1⟩; have HT1 := Lib.hid ht1; clear ht1)
    | (go_at_call 95; refine (groups_err (ItS.mk x r r.at_ r.e) 10 1 _ HT1.out.now he (by omega) (by omega)).mono ?_; rintro q w2 ⟨rfl, rfl⟩; have k2 := (ItS.cells HT1.out.now).2.2.1; simp only [] at k2))
  refine leaves_cons (f := 100) (args := #[.pointer (some ⟨x, 0, none⟩)]) (by simp) (by simp [go_sem]) ?_
  refine (end_any _ _ HT1.out.now .returning).mono ?_
  rintro e u' w'' ⟨rfl, rfl, ht3⟩
  have hF : (ItS.mk x r r.at_ r.e).ended = r := by rw [ItS.ended, if_neg (by simpa using he)]
  rw [hF] at ht3
  exact ⟨_, results_tmp rfl _ _ _, rfl, HT1.out.trans ht3⟩
end Go.Proofs.Ytkpgdonpmfebaaa.Bt
