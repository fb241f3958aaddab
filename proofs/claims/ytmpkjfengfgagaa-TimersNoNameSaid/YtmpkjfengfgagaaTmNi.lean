/- A float that is no number names no timer; every other float does, and 0 and -0 are one: TimersNoName. -/
import Derived.Test.YtmpkjfengfgagaaTmNh
import Derived.Test.YtmpkjfengfgagaaTmNz
import Derived.Laws.Externs
namespace Go.Proofs.Ytmpkjfengfgagaa.Tn
open Go.RowKit Go.Hp
attribute [local go_sem] min2_lean min_two max2_lean max_two
set_option linter.unusedSimpArgs false
set_option linter.unusedVariables false
set_option maxRecDepth 100000
theorem run_frombits (n : Nat) (w : World) : (callFunc 41 #[.int .u64 n]).run Try.prog w = .ok (.value (.float .f64 n)) w := by
  have h := run_callFunc_extern (P := Try.prog) (f := 41) (fn := Try.f41) (e := Extern.MathFloatBits.float64frombits) (by kernel_rfl) (by kernel_rfl) (by kernel_rfl) (by kernel_rfl) (by kernel_rfl)
  rw [h]
  rfl
set_option maxHeartbeats 2000000 in
theorem noname_n (f : Nat) (t : Int) (hf : (FloatKind.f64.format.order f f == some .eq) = false) (w : World) :
    Calls Try.prog 8 #[.int .u64 f, .int .i64 t] w fun e w' => e = .returned (.bool true) ∧ Below w.heap.size w w' := by
  have hf2 : (FloatKind.f64.format.order f f != some .eq) = true := by rw [bne, hf]; rfl
  have HNW := Lib.hid (new_f (fun _ => False) w)
  have hfb := run_frombits
  by_cases h1 : t < 1
  · have hd : decide (t < 1) = true := by simpa using h1
    go_enter Try.func8, Try.ntmps8
    go_wp2_with (first
      | (go_at_call 40; refine HNW.out.mono ?_; rintro r w1 ⟨g, b, rfl, ht1⟩; have HT1 := Lib.hid ht1; clear ht1)
      | (go_at_call 42; (with_reducible refine (arm_n g b f t hf _ HT1.out.now).mono ?_); rintro r w2 ⟨rfl, rfl⟩)
      | (go_at_call 43; (with_reducible refine (left_n g b f _ HT1.out.now).mono ?_); rintro r w3 ⟨rfl, rfl⟩)
      | (go_at_call 44; (with_reducible refine (cancel_n g b f _ HT1.out.now).mono ?_); rintro r w4 ⟨rfl, ht4⟩; have HT4 := Lib.hid (HT1.out.trans ht4); clear ht4)
      | (go_at_call 45; (with_reducible refine (armed_n g b _ HT4.out.now).mono ?_); rintro r w5 ⟨rfl, hb5⟩; have HB5 := Lib.hid hb5; clear hb5))
    refine bodyPost_ret (v := .bool true) (by simp [results, Try.results8, go_sem, *]) rfl ⟨rfl, (HT4.out.chg.below (fun _ h => h.elim) (Nat.le_refl _)).trans (HB5.out.mono HT4.out.chg.size)⟩
  · have hd : decide (t < 1) = false := by simpa using h1
    by_cases h2 : 1024 < t
    · have hd2 : decide (1024 < t) = true := by simpa using h2
      go_enter Try.func8, Try.ntmps8
      go_wp2_with (first
        | (go_at_call 40; refine HNW.out.mono ?_; rintro r w1 ⟨g, b, rfl, ht1⟩; have HT1 := Lib.hid ht1; clear ht1)
        | (go_at_call 42; (with_reducible refine (arm_n g b f t hf _ HT1.out.now).mono ?_); rintro r w2 ⟨rfl, rfl⟩)
        | (go_at_call 43; (with_reducible refine (left_n g b f _ HT1.out.now).mono ?_); rintro r w3 ⟨rfl, rfl⟩)
        | (go_at_call 44; (with_reducible refine (cancel_n g b f _ HT1.out.now).mono ?_); rintro r w4 ⟨rfl, ht4⟩; have HT4 := Lib.hid (HT1.out.trans ht4); clear ht4)
        | (go_at_call 45; (with_reducible refine (armed_n g b _ HT4.out.now).mono ?_); rintro r w5 ⟨rfl, hb5⟩; have HB5 := Lib.hid hb5; clear hb5))
      refine bodyPost_ret (v := .bool true) (by simp [results, Try.results8, go_sem, *]) rfl ⟨rfl, (HT4.out.chg.below (fun _ h => h.elim) (Nat.le_refl _)).trans (HB5.out.mono HT4.out.chg.size)⟩
    · have hd2 : decide (1024 < t) = false := by simpa using h2
      go_enter Try.func8, Try.ntmps8
      go_wp2_with (first
        | (go_at_call 40; refine HNW.out.mono ?_; rintro r w1 ⟨g, b, rfl, ht1⟩; have HT1 := Lib.hid ht1; clear ht1)
        | (go_at_call 42; (with_reducible refine (arm_n g b f t hf _ HT1.out.now).mono ?_); rintro r w2 ⟨rfl, rfl⟩)
        | (go_at_call 43; (with_reducible refine (left_n g b f _ HT1.out.now).mono ?_); rintro r w3 ⟨rfl, rfl⟩)
        | (go_at_call 44; (with_reducible refine (cancel_n g b f _ HT1.out.now).mono ?_); rintro r w4 ⟨rfl, ht4⟩; have HT4 := Lib.hid (HT1.out.trans ht4); clear ht4)
        | (go_at_call 45; (with_reducible refine (armed_n g b _ HT4.out.now).mono ?_); rintro r w5 ⟨rfl, hb5⟩; have HB5 := Lib.hid hb5; clear hb5))
      refine bodyPost_ret (v := .bool true) (by simp [results, Try.results8, go_sem, *]) rfl ⟨rfl, (HT4.out.chg.below (fun _ h => h.elim) (Nat.le_refl _)).trans (HB5.out.mono HT4.out.chg.size)⟩
set_option maxHeartbeats 2000000 in
theorem noname_y (f : Nat) (t : Int) (hff : (FloatKind.f64.format.order f f == some .eq) = true) (hz : (FloatKind.f64.format.order f 0 == some .eq) = false) {F : Nat → Prop} (hF : ∀ a b, F a → F b → (FloatKind.f64.format.order a b == some .eq) = true) (hx : F f) (w : World) :
    Calls Try.prog 8 #[.int .u64 f, .int .i64 t] w fun e w' => e = .returned (.bool true) ∧ Below w.heap.size w w' := by
  have hf2 : (FloatKind.f64.format.order f f != some .eq) = false := by rw [bne, hff]; rfl
  have HNW := Lib.hid (new_f F w)
  have hfb := run_frombits
  by_cases h1 : t < 1
  · have hd : decide (t < 1) = true := by simpa using h1
    have HA : Hid (armF t = 30) := Lib.hid (by unfold armF; rw [if_pos (Or.inl h1)])
    have HL : Hid (lstF t = []) := Lib.hid (by unfold lstF; rw [if_pos (Or.inl h1)])
    have HG : Hid (mget ([] : Tu) () = none) := Lib.hid rfl
    have HDL : Hid (mdel ([] : Tu) () = []) := Lib.hid rfl
    go_enter Try.func8, Try.ntmps8
    go_wp2_with (first
      | (go_at_call 40; refine HNW.out.mono ?_; rintro r w1 ⟨g, b, rfl, ht1⟩; have HT1 := Lib.hid ht1; clear ht1)
      | (go_at_call 42; (with_reducible refine (arm_f hF g b f hx t _ HT1.out.now).mono ?_); rintro r w2 ⟨rfl, ht2⟩; rw [HA.out]; rw [HL.out] at ht2; have HT2 := Lib.hid (HT1.out.trans ht2); clear ht2)
      | (go_at_call 43; (with_reducible refine (left_f hF g b [] f hx _ HT2.out.now).mono ?_); rintro r w3 ⟨rfl, rfl⟩; rw [HG.out])
      | (go_at_call 44; (with_reducible refine (cancel_f hF g b [] f hx _ HT2.out.now).mono ?_); rintro r w4 ⟨rfl, ht4⟩; rw [HG.out]; rw [HDL.out] at ht4; have HT4 := Lib.hid (HT2.out.trans ht4); clear ht4)
      | (go_at_call 45; (with_reducible refine (armed_n g b _ HT4.out.now).mono ?_); rintro r w5 ⟨rfl, hb5⟩; have HB5 := Lib.hid hb5; clear hb5))
    refine bodyPost_ret (v := .bool true) (by simp [results, Try.results8, go_sem, *]) rfl ⟨rfl, (HT4.out.chg.below (fun _ h => h.elim) (Nat.le_refl _)).trans (HB5.out.mono HT4.out.chg.size)⟩
  · have hd : decide (t < 1) = false := by simpa using h1
    by_cases h2 : 1024 < t
    · have hd2 : decide (1024 < t) = true := by simpa using h2
      have HA : Hid (armF t = 30) := Lib.hid (by unfold armF; rw [if_pos (Or.inr h2)])
      have HL : Hid (lstF t = []) := Lib.hid (by unfold lstF; rw [if_pos (Or.inr h2)])
      have HG : Hid (mget ([] : Tu) () = none) := Lib.hid rfl
      have HDL : Hid (mdel ([] : Tu) () = []) := Lib.hid rfl
      go_enter Try.func8, Try.ntmps8
      go_wp2_with (first
        | (go_at_call 40; refine HNW.out.mono ?_; rintro r w1 ⟨g, b, rfl, ht1⟩; have HT1 := Lib.hid ht1; clear ht1)
        | (go_at_call 42; (with_reducible refine (arm_f hF g b f hx t _ HT1.out.now).mono ?_); rintro r w2 ⟨rfl, ht2⟩; rw [HA.out]; rw [HL.out] at ht2; have HT2 := Lib.hid (HT1.out.trans ht2); clear ht2)
        | (go_at_call 43; (with_reducible refine (left_f hF g b [] f hx _ HT2.out.now).mono ?_); rintro r w3 ⟨rfl, rfl⟩; rw [HG.out])
        | (go_at_call 44; (with_reducible refine (cancel_f hF g b [] f hx _ HT2.out.now).mono ?_); rintro r w4 ⟨rfl, ht4⟩; rw [HG.out]; rw [HDL.out] at ht4; have HT4 := Lib.hid (HT2.out.trans ht4); clear ht4)
        | (go_at_call 45; (with_reducible refine (armed_n g b _ HT4.out.now).mono ?_); rintro r w5 ⟨rfl, hb5⟩; have HB5 := Lib.hid hb5; clear hb5))
      refine bodyPost_ret (v := .bool true) (by simp [results, Try.results8, go_sem, *]) rfl ⟨rfl, (HT4.out.chg.below (fun _ h => h.elim) (Nat.le_refl _)).trans (HB5.out.mono HT4.out.chg.size)⟩
    · have hd2 : decide (1024 < t) = false := by simpa using h2
      have HA : Hid (armF t = 0) := Lib.hid (by unfold armF; rw [if_neg (by omega)])
      have HL : Hid (lstF t = [((), t)]) := Lib.hid (by unfold lstF; rw [if_neg (by omega)])
      have HG : Hid (mget ([((), t)] : Tu) () = some t) := Lib.hid rfl
      have HDL : Hid (mdel ([((), t)] : Tu) () = []) := Lib.hid rfl
      have htt : (t != t) = false := by simp
      go_enter Try.func8, Try.ntmps8
      go_wp2_with (first
        | (go_at_call 40; refine HNW.out.mono ?_; rintro r w1 ⟨g, b, rfl, ht1⟩; have HT1 := Lib.hid ht1; clear ht1)
        | (go_at_call 42; (with_reducible refine (arm_f hF g b f hx t _ HT1.out.now).mono ?_); rintro r w2 ⟨rfl, ht2⟩; rw [HA.out]; rw [HL.out] at ht2; have HT2 := Lib.hid (HT1.out.trans ht2); clear ht2)
        | (go_at_call 43; (with_reducible refine (left_f hF g b [((), t)] f hx _ HT2.out.now).mono ?_); rintro r w3 ⟨rfl, rfl⟩; rw [HG.out])
        | (go_at_call 44; (with_reducible refine (cancel_f hF g b [((), t)] f hx _ HT2.out.now).mono ?_); rintro r w4 ⟨rfl, ht4⟩; rw [HG.out]; rw [HDL.out] at ht4; have HT4 := Lib.hid (HT2.out.trans ht4); clear ht4)
        | (go_at_call 45; (with_reducible refine (armed_n g b _ HT4.out.now).mono ?_); rintro r w5 ⟨rfl, hb5⟩; have HB5 := Lib.hid hb5; clear hb5))
      refine bodyPost_ret (v := .bool true) (by simp [results, Try.results8, go_sem, *]) rfl ⟨rfl, (HT4.out.chg.below (fun _ h => h.elim) (Nat.le_refl _)).trans (HB5.out.mono HT4.out.chg.size)⟩
set_option maxHeartbeats 2000000 in
theorem noname_z (f : Nat) (t : Int) (hff : (FloatKind.f64.format.order f f == some .eq) = true) (hz : (FloatKind.f64.format.order f 0 == some .eq) = true) (f2 : Nat) (hneg : ∀ w, (Op.unary UnOp.neg (.float .f64 f)).run Try.prog w = Result.ok (Value.float .f64 f2) w) {F : Nat → Prop} (hF : ∀ a b, F a → F b → (FloatKind.f64.format.order a b == some .eq) = true) (hx : F f) (hx2 : F f2) (w : World) :
    Calls Try.prog 8 #[.int .u64 f, .int .i64 t] w fun e w' => e = .returned (.bool true) ∧ Below w.heap.size w w' := by
  have hf2 : (FloatKind.f64.format.order f f != some .eq) = false := by rw [bne, hff]; rfl
  have HNW := Lib.hid (new_f F w)
  have hfb := run_frombits
  by_cases h1 : t < 1
  · have hd : decide (t < 1) = true := by simpa using h1
    have HA : Hid (armF t = 30) := Lib.hid (by unfold armF; rw [if_pos (Or.inl h1)])
    have HL : Hid (lstF t = []) := Lib.hid (by unfold lstF; rw [if_pos (Or.inl h1)])
    have HG : Hid (mget ([] : Tu) () = none) := Lib.hid rfl
    have HDL : Hid (mdel ([] : Tu) () = []) := Lib.hid rfl
    go_enter Try.func8, Try.ntmps8
    go_wp2_with (first
      | (go_at_call 40; refine HNW.out.mono ?_; rintro r w1 ⟨g, b, rfl, ht1⟩; have HT1 := Lib.hid ht1; clear ht1)
      | (go_at_call 42; (with_reducible refine (arm_f hF g b f hx t _ HT1.out.now).mono ?_); rintro r w2 ⟨rfl, ht2⟩; rw [HA.out]; rw [HL.out] at ht2; have HT2 := Lib.hid (HT1.out.trans ht2); clear ht2)
      | (go_at_call 43; (with_reducible refine (left_f hF g b [] f hx _ HT2.out.now).mono ?_); rintro r w3 ⟨rfl, rfl⟩; rw [HG.out])
      | (go_at_call 44; (with_reducible refine (cancel_f hF g b [] f hx _ HT2.out.now).mono ?_); rintro r w4 ⟨rfl, ht4⟩; rw [HG.out]; rw [HDL.out] at ht4; have HT4 := Lib.hid (HT2.out.trans ht4); clear ht4)
      | (go_at_call 45; (with_reducible refine (armed_n g b _ HT4.out.now).mono ?_); rintro r w5 ⟨rfl, hb5⟩; have HB5 := Lib.hid hb5; clear hb5))
    refine bodyPost_ret (v := .bool true) (by simp [results, Try.results8, go_sem, *]) rfl ⟨rfl, (HT4.out.chg.below (fun _ h => h.elim) (Nat.le_refl _)).trans (HB5.out.mono HT4.out.chg.size)⟩
  · have hd : decide (t < 1) = false := by simpa using h1
    by_cases h2 : 1024 < t
    · have hd2 : decide (1024 < t) = true := by simpa using h2
      have HA : Hid (armF t = 30) := Lib.hid (by unfold armF; rw [if_pos (Or.inr h2)])
      have HL : Hid (lstF t = []) := Lib.hid (by unfold lstF; rw [if_pos (Or.inr h2)])
      have HG : Hid (mget ([] : Tu) () = none) := Lib.hid rfl
      have HDL : Hid (mdel ([] : Tu) () = []) := Lib.hid rfl
      go_enter Try.func8, Try.ntmps8
      go_wp2_with (first
        | (go_at_call 40; refine HNW.out.mono ?_; rintro r w1 ⟨g, b, rfl, ht1⟩; have HT1 := Lib.hid ht1; clear ht1)
        | (go_at_call 42; (with_reducible refine (arm_f hF g b f hx t _ HT1.out.now).mono ?_); rintro r w2 ⟨rfl, ht2⟩; rw [HA.out]; rw [HL.out] at ht2; have HT2 := Lib.hid (HT1.out.trans ht2); clear ht2)
        | (go_at_call 43; (with_reducible refine (left_f hF g b [] f hx _ HT2.out.now).mono ?_); rintro r w3 ⟨rfl, rfl⟩; rw [HG.out])
        | (go_at_call 44; (with_reducible refine (cancel_f hF g b [] f hx _ HT2.out.now).mono ?_); rintro r w4 ⟨rfl, ht4⟩; rw [HG.out]; rw [HDL.out] at ht4; have HT4 := Lib.hid (HT2.out.trans ht4); clear ht4)
        | (go_at_call 45; (with_reducible refine (armed_n g b _ HT4.out.now).mono ?_); rintro r w5 ⟨rfl, hb5⟩; have HB5 := Lib.hid hb5; clear hb5))
      refine bodyPost_ret (v := .bool true) (by simp [results, Try.results8, go_sem, *]) rfl ⟨rfl, (HT4.out.chg.below (fun _ h => h.elim) (Nat.le_refl _)).trans (HB5.out.mono HT4.out.chg.size)⟩
    · have hd2 : decide (1024 < t) = false := by simpa using h2
      have HA : Hid (armF t = 0) := Lib.hid (by unfold armF; rw [if_neg (by omega)])
      have HL : Hid (lstF t = [((), t)]) := Lib.hid (by unfold lstF; rw [if_neg (by omega)])
      have HG : Hid (mget ([((), t)] : Tu) () = some t) := Lib.hid rfl
      have HDL : Hid (mdel ([((), t)] : Tu) () = []) := Lib.hid rfl
      have htt : (t != t) = false := by simp
      go_enter Try.func8, Try.ntmps8
      go_wp2_with (first
        | (go_at_call 40; refine HNW.out.mono ?_; rintro r w1 ⟨g, b, rfl, ht1⟩; have HT1 := Lib.hid ht1; clear ht1)
        | (go_at_call 42; (with_reducible refine (arm_f hF g b f hx t _ HT1.out.now).mono ?_); rintro r w2 ⟨rfl, ht2⟩; rw [HA.out]; rw [HL.out] at ht2; have HT2 := Lib.hid (HT1.out.trans ht2); clear ht2)
        | (go_at_call 43; (with_reducible refine (left_f hF g b [((), t)] f hx _ HT2.out.now).mono ?_); rintro r w3 ⟨rfl, rfl⟩; rw [HG.out])
        | (go_at_call 43; (with_reducible refine (left_f hF g b [((), t)] f2 hx2 _ HT2.out.now).mono ?_); rintro r w3 ⟨rfl, rfl⟩; rw [HG.out])
        | (go_at_call 44; (with_reducible refine (cancel_f hF g b [((), t)] f hx _ HT2.out.now).mono ?_); rintro r w4 ⟨rfl, ht4⟩; rw [HG.out]; rw [HDL.out] at ht4; have HT4 := Lib.hid (HT2.out.trans ht4); clear ht4)
        | (go_at_call 45; (with_reducible refine (armed_n g b _ HT4.out.now).mono ?_); rintro r w5 ⟨rfl, hb5⟩; have HB5 := Lib.hid hb5; clear hb5))
      refine bodyPost_ret (v := .bool true) (by simp [results, Try.results8, go_sem, *]) rfl ⟨rfl, (HT4.out.chg.below (fun _ h => h.elim) (Nat.le_refl _)).trans (HB5.out.mono HT4.out.chg.size)⟩
def FZ (g : Nat) : Prop := g = 0 ∨ g = 9223372036854775808
theorem fz_eq (a b : Nat) (ha : FZ a) (hb : FZ b) : (FloatKind.f64.format.order a b == some .eq) = true := by
  rcases ha with rfl | rfl <;> rcases hb with rfl | rfl <;> decide +kernel
theorem fz_neg (f : Nat) (hf : FZ f) : FZ (Op.negFloat .f64 f) := by
  rcases hf with rfl | rfl
  · exact Or.inr (by decide +kernel)
  · exact Or.inl (by decide +kernel)
theorem noname_arg (a0 a1 : Int) (h0 : (Lit.int .u64 a0).wf = true) (h1 : (Lit.int .i64 a1).wf = true) (w : World) :
    Calls Try.prog 8 #[.int .u64 a0, .int .i64 a1] w fun e w' => e = .returned (.bool true) ∧ Below w.heap.size w w' := by
  simp [Lit.wf, IntKind.min, IntKind.max, IntKind.signed, IntKind.bits] at h0
  obtain ⟨h2, h3⟩ := h0
  obtain ⟨f, rfl⟩ := Int.eq_ofNat_of_zero_le h2
  cases hff : (FloatKind.f64.format.order f f == some .eq) with
  | false => exact noname_n f a1 hff w
  | true =>
    cases hz : (FloatKind.f64.format.order f 0 == some .eq) with
    | false =>
      refine noname_y f a1 hff hz (F := fun g => g = f) (fun a b ha hb => ?_) rfl w
      rw [ha, hb]
      exact hff
    | true =>
      have hzz : FZ f := by
        have hz2 : FloatKind.f64.format.order f 0 = some .eq := by simpa using hz
        have := Go.Fl.zero_of (f := f) (by omega) hz2
        rcases this with h | h
        · exact Or.inl h
        · exact Or.inr h
      exact noname_z f a1 hff hz (Op.negFloat .f64 f) (fun w => rfl) fz_eq hzz (fz_neg f hzz) w
end Go.Proofs.Ytmpkjfengfgagaa.Tn
