/- The reader of package bits: numbers, bytes. -/
import Derived.Test.YtkpgdonpmfebaaaBrG
namespace Go.Proofs.Ytkpgdonpmfebaaa.Bt
open Go.RowKit Go.Hp
attribute [local go_sem] min2_lean min_two max2_lean max_two
set_option linter.unusedSimpArgs false
set_option linter.unusedVariables false
set_option maxRecDepth 100000

theorem groups_err (s : ItS) (most top : Nat) (w : World) (hs : s.own.holds w) (he : (s.e == 0) = false) (hm : 1 ≤ most) (hm2 : most ≤ 10) :
    Calls Try.prog 95 #[.pointer (some ⟨s.x, 0, none⟩), .int .i64 most, .int .u8 top] w fun r w' => r = .returned (.int .u64 0) ∧ w = w' := by
  obtain ⟨x, r, at_, e⟩ := s
  simp only [] at he
  have HO := Lib.hid (one_err (ItS.mk x r at_ e) w hs he)
  obtain ⟨_, _, c2, _, _⟩ := ItS.cells hs
  simp only [] at c2
  have hne : (e != 0) = true := by simpa using he
  clear hs
  have hd : decide ((0 : Int) < (most : Int)) = true := by simp; omega
  have hd' : decide (0 < most) = true := by simp; omega
  go_enter Try.func95, Try.ntmps95
  go_wp2_with fail
  go_loopw [11] (fun x11 wr => x11 = .int .i64 0 ∧ w = wr) (fun _ _ => 0)
  case atStart => exact ⟨rfl, rfl⟩
  case round =>
    obtain ⟨rfl, rfl⟩ := hrel
    go_wp2_with (go_at_call 98; refine HO.out.mono ?_; rintro q w1 ⟨rfl, rfl⟩)
    go_ret
    exact ⟨rfl, rfl⟩
/-- What 'num' reads, of an item that is whole. -/
def numOf (most : Int) (big : Int) (bs : List UInt8) (a : Nat) : Int × Nat × Int :=
  let q := gr 9 127 bs 9 0 0 a
  if q.2.2 = 0 then (if most < q.1 then (0, q.2.1, big) else (q.1, q.2.1, 0)) else (0, q.2.1, q.2.2)
theorem num_item_err (s : ItS) (most big : Int) (w : World) (hs : s.own.holds w) (he : (s.e == 0) = false) :
    Calls Try.prog 83 #[.pointer (some ⟨s.x, 0, none⟩), .int .i64 most, .int .i64 big] w fun r w' => r = .returned (.int .i64 0) ∧ w = w' := by
  have HO := Lib.hid (groups_err s 9 127 w hs he (by omega) (by omega))
  obtain ⟨_, _, c2, _, _⟩ := ItS.cells hs
  have hne : (s.e != 0) = true := by simpa using he
  clear hs
  go_enter Try.func83, Try.ntmps83
  go_wp2_with (go_at_call 95; refine HO.out.mono ?_; rintro q w1 ⟨rfl, rfl⟩)
  go_ret
  exact ⟨rfl, rfl⟩
theorem gr_val (most top : Nat) (bs : List UInt8) : ∀ k i n a, i + k = most → n < 128 ^ i → (gr most top bs k i n a).1 < 128 ^ most := by
  intro k
  induction k with
  | zero => intro i n a hi hn; rw [gr]; simpa [← hi] using hn
  | succ k ih =>
    intro i n a hi hn
    have hp : 0 < (128 : Nat) ^ most := Nat.pow_pos (by omega)
    have h1 : (128 : Nat) ^ (i + 1) ≤ 128 ^ most := Nat.pow_le_pow_right (by omega) (by omega)
    rw [Nat.pow_succ] at h1
    rw [gr]
    split
    · split
      · exact hp
      · split
        · exact hp
        · split
          · rename_i hlt
            have : bs[a].toNat * 128 ^ i ≤ 127 * 128 ^ i := Nat.mul_le_mul_right _ (by omega)
            show n + bs[a].toNat * 128 ^ i < _
            omega
          · refine ih _ _ _ (by omega) ?_
            have := bs[a].toNat_lt
            have : (bs[a].toNat - 128) * 128 ^ i ≤ 127 * 128 ^ i := Nat.mul_le_mul_right _ (by omega)
            rw [Nat.pow_succ]
            omega
    · exact hp
theorem gr_place (most top : Nat) (bs : List UInt8) : ∀ k i n a, a ≤ bs.length → a ≤ (gr most top bs k i n a).2.1 ∧ (gr most top bs k i n a).2.1 ≤ bs.length := by
  intro k
  induction k with
  | zero => intro i n a ha; rw [gr]; exact ⟨Nat.le_refl _, ha⟩
  | succ k ih =>
    intro i n a ha
    rw [gr]
    split
    · split
      · exact ⟨Nat.le_succ _, by simp only []; omega⟩
      · split
        · exact ⟨Nat.le_succ _, by simp only []; omega⟩
        · split
          · exact ⟨Nat.le_succ _, by simp only []; omega⟩
          · have := ih (i + 1) (n + (bs[a].toNat - 128) * 128 ^ i) (a + 1) (by omega)
            exact ⟨by omega, this.2⟩
    · exact ⟨Nat.le_refl _, ha⟩
theorem gr_val10 (bs : List UInt8) : ∀ k i n a, i + k = 10 → n < 128 ^ i → i ≤ 9 → (gr 10 1 bs k i n a).2.2 = 0 → (gr 10 1 bs k i n a).1 < 2 ^ 64 := by
  intro k
  induction k with
  | zero => intro i n a hi hn h9; omega
  | succ k ih =>
    intro i n a hi hn h9 h0
    rw [gr] at h0 ⊢
    split at h0
    · rename_i hlt
      rw [dif_pos hlt]
      split at h0
      · simp at h0
      · rename_i hw
        rw [if_neg hw]
        split at h0
        · simp at h0
        · rename_i hz
          rw [if_neg hz]
          split at h0
          · rename_i hc
            rw [if_pos hc]
            show n + bs[a].toNat * 128 ^ i < _
            by_cases h : i = 9
            · subst h
              have : bs[a].toNat ≤ 1 := by omega
              have : bs[a].toNat * 128 ^ 9 ≤ 1 * 128 ^ 9 := Nat.mul_le_mul_right _ this
              have h3 : (128 : Nat) ^ 9 * 2 = 2 ^ 64 := by decide
              omega
            · have h1 : (128 : Nat) ^ i ≤ 128 ^ 8 := Nat.pow_le_pow_right (by decide) (by omega)
              have h2 : bs[a].toNat * 128 ^ i ≤ 127 * 128 ^ 8 := Nat.mul_le_mul (by omega) h1
              have h3 : (127 : Nat) * 128 ^ 8 + 128 ^ 8 ≤ 2 ^ 64 := by decide
              omega
          · rename_i hc
            rw [if_neg hc]
            by_cases h : i = 9
            · subst h
              exfalso
              exact hw ⟨rfl, by omega⟩
            · refine ih _ _ _ (by omega) ?_ (by omega) h0
              have := bs[a].toNat_lt
              have : (bs[a].toNat - 128) * 128 ^ i ≤ 127 * 128 ^ i := Nat.mul_le_mul_right _ (by omega)
              rw [Nat.pow_succ]
              omega
    · simp at h0
set_option maxHeartbeats 1000000 in
theorem num_item_ok (s : ItS) (most big : Int) (w : World) (hs : s.own.holds w) (he : s.e = 0) (ha : s.at_ ≤ s.r.bs.length) (hl : s.r.bs.length < 4611686018427387904) (hb : (big == 0) = false) :
    Calls Try.prog 83 #[.pointer (some ⟨s.x, 0, none⟩), .int .i64 most, .int .i64 big] w fun r w' =>
      r = .returned (.int .i64 (numOf most big s.r.bs s.at_).1) ∧ Turns w w' s.own ({ s with at_ := (numOf most big s.r.bs s.at_).2.1, e := (numOf most big s.r.bs s.at_).2.2 } : ItS).own := by
  have HO := Lib.hid (groups_ok s 9 127 w hs he ha hl (by omega) (by omega) (by omega))
  have hv := gr_val 9 127 s.r.bs 9 0 0 s.at_ rfl (by decide)
  have hnb : (big != 0) = true := by simpa using hb
  obtain ⟨N, hN⟩ : ∃ N, N = numOf most big s.r.bs s.at_ := ⟨_, rfl⟩
  have HN := Lib.hid hN
  rw [← hN]
  simp only [numOf] at HN
  clear hN
  generalize gr 9 127 s.r.bs 9 0 0 s.at_ = q at *
  obtain ⟨q1, q2, q3⟩ := q
  simp only [] at hv HN HO
  have hv2 : q1 < 9223372036854775808 := by have : (128 : Nat) ^ 9 = 9223372036854775808 := by decide
                                            omega
  have hcv : IntKind.i64.wrap (q1 : Int) = (q1 : Int) := IntWalk.i64_in _ (by omega)
  clear hs hv
  go_enter Try.func83, Try.ntmps83
  by_cases h3 : q3 = 0
  · subst h3
    by_cases h4 : most < (q1 : Int)
    · have hd : decide (most < (q1 : Int)) = true := by simpa using h4
      go_wp2_with (first
        | (go_at_call 95; refine HO.out.mono ?_; rintro q w1 ⟨rfl, ht1⟩; have HT1 := Lib.hid ht1; have k2 := (ItS.cells ht1.now).2.2.1; have kf := (ItS.cells ht1.now).2.2.2.2; clear ht1; simp only [] at k2 kf)
        | (go_at_call 99; refine (fail_new s.x big _ (by exact k2) (by exact kf)).mono ?_; rintro q w2 ⟨rfl, rfl⟩))
      go_ret
      have := HN.out
      rw [if_pos trivial, if_pos (by omega)] at this
      rw [this]
      exact ⟨rfl, HT1.out.trans (ItS.setE HT1.out.now big)⟩
    · have hd : decide (most < (q1 : Int)) = false := by simpa using h4
      go_wp2_with (first
        | (go_at_call 95; refine HO.out.mono ?_; rintro q w1 ⟨rfl, ht1⟩; have HT1 := Lib.hid ht1; have k2 := (ItS.cells ht1.now).2.2.1; have kf := (ItS.cells ht1.now).2.2.2.2; clear ht1; simp only [] at k2 kf))
      go_ret
      have := HN.out
      rw [if_pos trivial, if_neg (by omega)] at this
      rw [this]
      exact ⟨rfl, HT1.out⟩
  · have hd1 : (q3 == 0) = false := by simpa using h3
    have hd2 : (q3 != 0) = true := by simpa using h3
    go_wp2_with (first
      | (go_at_call 95; refine HO.out.mono ?_; rintro q w1 ⟨rfl, ht1⟩; have HT1 := Lib.hid ht1; have k2 := (ItS.cells ht1.now).2.2.1; have kf := (ItS.cells ht1.now).2.2.2.2; clear ht1; simp only [] at k2 kf))
    go_ret
    have := HN.out
    rw [if_neg h3] at this
    rw [this]
    exact ⟨rfl, HT1.out⟩
end Go.Proofs.Ytkpgdonpmfebaaa.Bt
