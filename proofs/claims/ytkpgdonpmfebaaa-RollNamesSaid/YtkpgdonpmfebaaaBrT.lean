/- The reader of package bits: its other methods. -/
import Derived.Test.YtkpgdonpmfebaaaBrM
import Derived.Laws.CopyOwn
import Derived.Lib.BufferRead
import Derived.Test.YtkpgdonpmfebaaaBtW3
import Derived.Lib.Zigzag
import Derived.Laws.IdiomStrings
namespace Go.Proofs.Ytkpgdonpmfebaaa.Bt
open Go.RowKit Go.Hp
attribute [local go_sem] min2_lean min_two max2_lean max_two
set_option linter.unusedSimpArgs false
set_option linter.unusedVariables false
set_option maxRecDepth 100000

/-- What 'Bool' reads. -/
def boolOf (bs : List UInt8) (a : Nat) : Bool × Nat × Int := if h : a < bs.length then (if 1 < bs[a].toNat then (false, a + 1, 12) else (decide (bs[a].toNat = 1), a + 1, 0)) else (false, a, 10)
theorem rbool_ok (r : RdS) (w : World) (hs : r.own.holds w) (he : r.e = 0) (ha : r.at_ ≤ r.bs.length) (hl : r.bs.length < 4611686018427387904) :
    Calls Try.prog 73 #[.pointer (some ⟨r.g, 0, none⟩)] w fun q w' =>
      q = .returned (.bool (boolOf r.bs r.at_).1) ∧ Turns w w' r.own (ItS.mk 0 r (boolOf r.bs r.at_).2.1 (boolOf r.bs r.at_).2.2).ended.own := by
  have HB := Lib.hid (begin_any r w hs)
  clear hs
  by_cases hlt : r.at_ < r.bs.length
  · have HO : Hid (∀ x w1, (ItS.mk x r r.at_ r.e).own.holds w1 → Calls Try.prog 98 #[.pointer (some ⟨x, 0, none⟩)] w1 fun q w' => q = .returned (bv r.bs[r.at_]) ∧ Turns w1 w' (ItS.mk x r r.at_ r.e).own (ItS.mk x r (r.at_ + 1) r.e).own) :=
      fun x w1 h => one_ok (ItS.mk x r r.at_ r.e) w1 h he hlt hl
    obtain ⟨z, hz⟩ : ∃ z, r.bs[r.at_].toNat = z := ⟨_, rfl⟩
    have HBV : Hid (bv r.bs[r.at_] = .int .u8 z) := by show bv r.bs[r.at_] = _; rw [← hz]; rfl
    rw [HBV.out] at HO
    clear HBV
    have hG : boolOf r.bs r.at_ = if 1 < z then (false, r.at_ + 1, 12) else (decide (z = 1), r.at_ + 1, 0) := by rw [boolOf, dif_pos hlt, hz]
    rw [hG]
    clear hG
    rw [he] at HO HB
    by_cases h1 : 1 < z
    · rw [if_pos h1]
      simp only []
      have hd : decide (1 < z) = true := by simpa using h1
      generalize hF : (ItS.mk 0 r (r.at_ + 1) 12).ended = F
      have HF := Lib.hid hF
      clear hF
      go_enter_defers Try.func73, Try.ntmps73
      go_wp2_with (first
        | (go_at_call 80; refine HB.out.mono ?_; rintro q w1 ⟨x, rfl, ht1⟩; have HT1 := Lib.hid ht1; clear ht1)
        | (go_at_call 98; refine (HO.out x _ HT1.out.now).mono ?_; rintro q w2 ⟨rfl, ht2⟩; have HT2 := Lib.hid ht2; have k2 := (ItS.cells ht2.now).2.2.1; have kf := (ItS.cells ht2.now).2.2.2.2; clear ht2; simp only [] at k2 kf)
        | (go_at_call 99; refine (fail_new x 12 _ (by exact k2) (by exact kf)).mono ?_; rintro q w3 ⟨rfl, rfl⟩))
      refine leaves_cons (f := 100) (args := #[.pointer (some ⟨x, 0, none⟩)]) (by simp) (by simp [go_sem]) ?_
      refine (end_any _ _ (HT2.out.trans (ItS.setE HT2.out.now 12)).now .returning).mono ?_
      rintro e u' w'' ⟨rfl, rfl, ht3⟩
      exact ⟨_, results_tmp rfl _ _ _, rfl, by rw [← HF.out]; exact ((HT1.out.trans HT2.out).trans (ItS.setE HT2.out.now 12)).trans ht3⟩
    · rw [if_neg h1]
      simp only []
      have hd : decide (1 < z) = false := by simpa using h1
      have hz1 : (decide (z = 1)) = ((z : Int) == 1) := by
        by_cases h : z = 1
        · simp [h]
        · simp [h]; omega
      rw [hz1]
      clear hz1
      generalize hF : (ItS.mk 0 r (r.at_ + 1) 0).ended = F
      have HF := Lib.hid hF
      clear hF
      go_enter_defers Try.func73, Try.ntmps73
      go_wp2_with (first
        | (go_at_call 80; refine HB.out.mono ?_; rintro q w1 ⟨x, rfl, ht1⟩; have HT1 := Lib.hid ht1; clear ht1)
        | (go_at_call 98; refine (HO.out x _ HT1.out.now).mono ?_; rintro q w2 ⟨rfl, ht2⟩; have HT2 := Lib.hid ht2; have k2 := (ItS.cells ht2.now).2.2.1; have kf := (ItS.cells ht2.now).2.2.2.2; clear ht2; simp only [] at k2 kf))
      refine leaves_cons (f := 100) (args := #[.pointer (some ⟨x, 0, none⟩)]) (by simp) (by simp [go_sem]) ?_
      refine (end_any _ _ HT2.out.now .returning).mono ?_
      rintro e u' w'' ⟨rfl, rfl, ht3⟩
      exact ⟨_, results_tmp rfl _ _ _, rfl, by rw [← HF.out]; exact (HT1.out.trans HT2.out).trans ht3⟩
  · have HO : Hid (∀ x w1, (ItS.mk x r r.at_ r.e).own.holds w1 → Calls Try.prog 98 #[.pointer (some ⟨x, 0, none⟩)] w1 fun q w' => q = .returned (.int .u8 0) ∧ Turns w1 w' (ItS.mk x r r.at_ r.e).own (ItS.mk x r r.at_ 10).own) :=
      fun x w1 h => one_short (ItS.mk x r r.at_ r.e) w1 h he (by simp only []; omega) hl
    have hG : boolOf r.bs r.at_ = (false, r.at_, 10) := by rw [boolOf, dif_neg hlt]
    rw [hG]
    clear hG
    simp only []
    generalize hF : (ItS.mk 0 r r.at_ 10).ended = F
    have HF := Lib.hid hF
    clear hF
    go_enter_defers Try.func73, Try.ntmps73
    go_wp2_with (first
      | (go_at_call 80; refine HB.out.mono ?_; rintro q w1 ⟨x, rfl, ht1⟩; have HT1 := Lib.hid ht1; clear ht1)
      | (go_at_call 98; refine (HO.out x _ HT1.out.now).mono ?_; rintro q w2 ⟨rfl, ht2⟩; have HT2 := Lib.hid ht2; have k2 := (ItS.cells ht2.now).2.2.1; have kf := (ItS.cells ht2.now).2.2.2.2; clear ht2; simp only [] at k2 kf))
    refine leaves_cons (f := 100) (args := #[.pointer (some ⟨x, 0, none⟩)]) (by simp) (by simp [go_sem]) ?_
    refine (end_any _ _ HT2.out.now .returning).mono ?_
    rintro e u' w'' ⟨rfl, rfl, ht3⟩
    exact ⟨_, results_tmp rfl _ _ _, rfl, by rw [← HF.out]; exact (HT1.out.trans HT2.out).trans ht3⟩
theorem rbool_err (r : RdS) (w : World) (hs : r.own.holds w) (he : (r.e == 0) = false) :
    Calls Try.prog 73 #[.pointer (some ⟨r.g, 0, none⟩)] w fun q w' => q = .returned (.bool false) ∧ Turns w w' r.own r.own := by
  have HB := Lib.hid (begin_any r w hs)
  clear hs
  go_enter_defers Try.func73, Try.ntmps73
  go_wp2_with (first
    | (go_at_call 80; refine HB.out.mono ?_; rintro q w1 ⟨x, rfl, ht1⟩; have HT1 := Lib.hid ht1; clear ht1)
    | (go_at_call 98; refine (one_err (ItS.mk x r r.at_ r.e) _ HT1.out.now he).mono ?_; rintro q w2 ⟨rfl, rfl⟩; have k2 := (ItS.cells HT1.out.now).2.2.1; simp only [] at k2))
  refine leaves_cons (f := 100) (args := #[.pointer (some ⟨x, 0, none⟩)]) (by simp) (by simp [go_sem]) ?_
  refine (end_any _ _ HT1.out.now .returning).mono ?_
  rintro e u' w'' ⟨rfl, rfl, ht3⟩
  have hF : (ItS.mk x r r.at_ r.e).ended = r := by rw [ItS.ended, if_neg (by simpa using he)]
  rw [hF] at ht3
  exact ⟨_, results_tmp rfl _ _ _, rfl, HT1.out.trans ht3⟩
theorem conv_src (w : World) (v : Value) (l : List UInt8) (h : Src w v l.length 1 (l.map bv)) : (convert 38 9 v).run Try.prog w = .ok (.string ⟨l.toArray⟩) w := by
  rcases h.2 with ⟨c, rfl, h0⟩ | ⟨ad, c, rfl, hc⟩
  · have : l = [] := List.eq_nil_of_length_eq_zero h0
    subst this
    exact Lib.run_convert_nil_bytes w 38 9 5 c Try.underlying38 Try.underlying5 Try.underlying9
  · exact run_convert_bytes_back w 38 9 5 ad c l Try.underlying38 Try.underlying5 Try.underlying9 (fun j hj => hc j _ (by simp [hj, bv]))
theorem rtext_ok (r : RdS) (most : Int) (w : World) (hs : r.own.holds w) (he : r.e = 0) (ha : r.at_ ≤ r.bs.length) (hl : r.bs.length < 4611686018427387904) :
    Calls Try.prog 75 #[.pointer (some ⟨r.g, 0, none⟩), .int .i64 most] w fun q w' =>
      q = .returned (.string ⟨(someOf most r.bs r.at_).1.toArray⟩) ∧ Turns w w' r.own (ItS.mk 0 r (someOf most r.bs r.at_).2.1 (someOf most r.bs r.at_).2.2).ended.own := by
  have HB := Lib.hid (begin_any r w hs)
  clear hs
  have HO : Hid (∀ x w1, (ItS.mk x r r.at_ r.e).own.holds w1 → Calls Try.prog 81 #[.pointer (some ⟨x, 0, none⟩), .int .i64 most] w1 fun q w' => ∃ v, q = .returned v ∧
      Src w' v (someOf most r.bs r.at_).1.length 1 ((someOf most r.bs r.at_).1.map bv) ∧ Turns w1 w' (ItS.mk x r r.at_ r.e).own (ItS.mk x r (someOf most r.bs r.at_).2.1 (someOf most r.bs r.at_).2.2).own) :=
    fun x w1 h => some_ok (ItS.mk x r r.at_ r.e) most w1 h he ha hl
  generalize someOf most r.bs r.at_ = G at *
  obtain ⟨l, a, e⟩ := G
  simp only [] at HO ⊢
  generalize hF : (ItS.mk 0 r a e).ended = F
  have HF := Lib.hid hF
  clear hF
  go_enter_defers Try.func75, Try.ntmps75
  go_wp2_with (first
    | (go_at_call 80; refine HB.out.mono ?_; rintro q w1 ⟨x, rfl, ht1⟩; have HT1 := Lib.hid ht1; clear ht1)
    | (go_at_call 81; refine (HO.out x _ HT1.out.now).mono ?_; rintro q w2 ⟨v, rfl, hv, ht2⟩; have HT2 := Lib.hid ht2; have hcv := conv_src _ _ _ hv; clear ht2 hv))
  refine leaves_cons (f := 100) (args := #[.pointer (some ⟨x, 0, none⟩)]) (by simp) (by simp [go_sem]) ?_
  refine (end_any _ _ HT2.out.now .returning).mono ?_
  rintro e u' w'' ⟨rfl, rfl, ht3⟩
  exact ⟨_, results_tmp rfl _ _ _, rfl, by rw [← HF.out]; exact (HT1.out.trans HT2.out).trans ht3⟩
theorem rtext_err (r : RdS) (most : Int) (w : World) (hs : r.own.holds w) (he : (r.e == 0) = false) :
    Calls Try.prog 75 #[.pointer (some ⟨r.g, 0, none⟩), .int .i64 most] w fun q w' => q = .returned (.string ⟨#[]⟩) ∧ Turns w w' r.own r.own := by
  have HB := Lib.hid (begin_any r w hs)
  clear hs
  go_enter_defers Try.func75, Try.ntmps75
  go_wp2_with (first
    | (go_at_call 80; refine HB.out.mono ?_; rintro q w1 ⟨x, rfl, ht1⟩; have HT1 := Lib.hid ht1; clear ht1)
    | (go_at_call 81; refine (some_err (ItS.mk x r r.at_ r.e) most _ HT1.out.now he).mono ?_; rintro q w2 ⟨rfl, n, rfl⟩; have hcv := conv_src (w1.drewN n) (.slice none 0 0) [] ⟨rfl, Or.inl ⟨0, rfl, rfl⟩⟩))
  refine leaves_cons (f := 100) (args := #[.pointer (some ⟨x, 0, none⟩)]) (by simp) (by simp [go_sem]) ?_
  refine (end_any (ItS.mk x r r.at_ r.e) _ (by exact (HT1.out.drewN n).now) .returning).mono ?_
  rintro e u' w'' ⟨rfl, rfl, ht3⟩
  have hF : (ItS.mk x r r.at_ r.e).ended = r := by rw [ItS.ended, if_neg (by simpa using he)]
  rw [hF] at ht3
  exact ⟨_, results_tmp rfl _ _ _, rfl, (HT1.out.drewN n).trans ht3⟩
end Go.Proofs.Ytkpgdonpmfebaaa.Bt
