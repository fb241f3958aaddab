/- What was written in groups is read back. Plain. -/
import Derived.Test.YtkpgdonpmfebaaaBrB
import Derived.Test.YtkpgdonpmfebaaaBrM
import Derived.Test.YtkpgdonpmfebaaaBtW2
namespace Go.Proofs.Ytkpgdonpmfebaaa.Bt
set_option linter.unusedSimpArgs false
set_option linter.unusedVariables false

theorem gr_vi (most top : Nat) (ht : top ≤ 127) (bs rest : List UInt8) : ∀ k i n acc a, i + (k + 1) = most → n < (top + 1) * 128 ^ k → (i = 0 ∨ 0 < n) → bs.drop a = vi n ++ rest →
    gr most top bs (k + 1) i acc a = (acc + n * 128 ^ i, a + (vi n).length, 0) := by
  intro k
  induction k with
  | zero =>
    intro i n acc a hi hn hz hd
    have hn1 : n < 128 := by simp at hn; omega
    rw [vi_lt hn1] at hd
    have hlt : a < bs.length := by
      rcases Nat.lt_or_ge a bs.length with h | h
      · exact h
      · rw [List.drop_of_length_le h] at hd; simp at hd
    have hb : bs[a] = UInt8.ofNat n := by
      have : bs[a]? = some (UInt8.ofNat n) := by
        have h0 : (bs.drop a)[0]? = some (UInt8.ofNat n) := by rw [hd]; rfl
        rw [List.getElem?_drop] at h0
        simpa using h0
      rw [List.getElem?_eq_getElem hlt] at this
      exact Option.some.inj this
    have hbn : bs[a].toNat = n := by rw [hb, UInt8.toNat_ofNat_of_lt' (by simp [UInt8.size]; omega)]
    rw [gr, dif_pos hlt, hbn, if_neg (by simp at hn; omega), if_neg (by omega), if_pos hn1, vi_lt hn1]
    rfl
  | succ k ih =>
    intro i n acc a hi hn hz hd
    by_cases hn1 : n < 128
    · rw [vi_lt hn1] at hd
      have hlt : a < bs.length := by
        rcases Nat.lt_or_ge a bs.length with h | h
        · exact h
        · rw [List.drop_of_length_le h] at hd; simp at hd
      have hb : bs[a] = UInt8.ofNat n := by
        have : bs[a]? = some (UInt8.ofNat n) := by
          have h0 : (bs.drop a)[0]? = some (UInt8.ofNat n) := by rw [hd]; rfl
          rw [List.getElem?_drop] at h0
          simpa using h0
        rw [List.getElem?_eq_getElem hlt] at this
        exact Option.some.inj this
      have hbn : bs[a].toNat = n := by rw [hb, UInt8.toNat_ofNat_of_lt' (by simp [UInt8.size]; omega)]
      rw [gr, dif_pos hlt, hbn, if_neg (by omega), if_neg (by omega), if_pos hn1, vi_lt hn1]
      rfl
    · rw [vi_ge hn1] at hd
      have hlt : a < bs.length := by
        rcases Nat.lt_or_ge a bs.length with h | h
        · exact h
        · rw [List.drop_of_length_le h] at hd; simp at hd
      have hb : bs[a] = UInt8.ofNat (n % 128 + 128) := by
        have : bs[a]? = some (UInt8.ofNat (n % 128 + 128)) := by
          have h0 : (bs.drop a)[0]? = some (UInt8.ofNat (n % 128 + 128)) := by rw [hd]; rfl
          rw [List.getElem?_drop] at h0
          simpa using h0
        rw [List.getElem?_eq_getElem hlt] at this
        exact Option.some.inj this
      have hbn : bs[a].toNat = n % 128 + 128 := by rw [hb, UInt8.toNat_ofNat_of_lt' (by simp [UInt8.size]; omega)]
      have hd2 : bs.drop (a + 1) = vi (n / 128) ++ rest := by
        have := congrArg (List.drop 1) hd
        rw [List.drop_drop] at this
        simpa using this
      rw [gr, dif_pos hlt, hbn, if_neg (by omega), if_neg (by omega), if_neg (by omega)]
      rw [ih (i + 1) (n / 128) _ (a + 1) (by omega) ?_ (Or.inr (by omega)) hd2, vi_ge hn1, List.length_cons]
      · have e : acc + (n % 128 + 128 - 128) * 128 ^ i + n / 128 * 128 ^ (i + 1) = acc + n * 128 ^ i := by
          rw [Nat.add_sub_cancel, Nat.pow_succ, Nat.mul_comm (128 ^ i) 128, ← Nat.mul_assoc, Nat.add_assoc, ← Nat.add_mul]
          congr 2
          omega
        rw [e, show a + 1 + (vi (n / 128)).length = a + ((vi (n / 128)).length + 1) by omega]
      · rw [Nat.pow_succ, ← Nat.mul_assoc] at hn
        exact Nat.div_lt_of_lt_mul (by rw [Nat.mul_comm]; exact hn)
theorem uz_zz (n : Int) : uz (zz n) = n := by
  unfold uz zz
  split <;> split <;> omega
theorem numOf_vi (most big : Int) (n : Nat) (bs rest : List UInt8) (a : Nat) (hn : n < 2 ^ 63) (hm : (n : Int) ≤ most) (hd : bs.drop a = vi n ++ rest) : numOf most big bs a = ((n : Int), a + (vi n).length, 0) := by
  have h128 : (127 + 1) * 128 ^ 8 = 2 ^ 63 := by decide
  have h := gr_vi 9 127 (by omega) bs rest 8 0 n 0 a rfl (by omega) (Or.inl rfl) hd
  unfold numOf
  rw [h]
  simp only [Nat.zero_add, Nat.pow_zero, Nat.mul_one, if_true]
  rw [if_neg (by omega)]
theorem someOf_vi (most : Int) (x bs rest : List UInt8) (a : Nat) (hn : x.length < 2 ^ 63) (hm : (x.length : Int) ≤ most) (ha : a ≤ bs.length) (hd : bs.drop a = vi x.length ++ (x ++ rest)) :
    someOf most bs a = (x, a + (vi x.length).length + x.length, 0) := by
  unfold someOf
  rw [numOf_vi most 14 x.length bs (x ++ rest) a hn hm hd]
  have hl := congrArg List.length hd
  simp only [List.length_drop, List.length_append] at hl
  simp only [if_true, Int.toNat_natCast]
  rw [if_neg (by omega), ← List.drop_drop, hd, List.drop_left, List.take_left]
theorem signed_vi (n : Int) (bs rest : List UInt8) (a : Nat) (h0 : -9223372036854775808 ≤ n) (h1 : n ≤ 9223372036854775807) (hd : bs.drop a = vi (zz n) ++ rest) :
    gr 10 1 bs 10 0 0 a = (zz n, a + (vi (zz n)).length, 0) := by
  have h128 : (1 + 1) * 128 ^ 9 = 2 ^ 64 := by decide
  have hz := zz_lt n h0 h1
  have h := gr_vi 10 1 (by omega) bs rest 9 0 (zz n) 0 a rfl (by omega) (Or.inl rfl) hd
  rw [h]
  simp
end Go.Proofs.Ytkpgdonpmfebaaa.Bt
