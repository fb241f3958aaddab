/- A reader cut short. Plain. -/
import Derived.Test.YtkpgdonpmfebaaaBlW8
namespace Go.Proofs.Ytkpgdonpmfebaaa.Bt
open Go.RowKit Go.Hp
attribute [local go_sem] min2_lean min_two max2_lean max_two
set_option linter.unusedSimpArgs false
set_option linter.unusedVariables false
set_option maxRecDepth 100000
theorem vi_take_head (n m : Nat) (rest : List UInt8) (hm : m + 1 < (vi n).length) : ¬ n < 128 ∧ (vi n).take (m + 1) = UInt8.ofNat (n % 128 + 128) :: (vi (n / 128)).take m ∧ m < (vi (n / 128)).length := by
  have h : ¬ n < 128 := fun h => by rw [vi_lt h] at hm; simp at hm
  rw [vi_ge h] at hm ⊢
  exact ⟨h, by rw [List.take_succ_cons], by simpa using hm⟩
theorem gr_cut (most top : Nat) (ht : top ≤ 127) (bs : List UInt8) : ∀ k i n acc a m, i + (k + 1) = most → n < (top + 1) * 128 ^ k → m < (vi n).length → bs.drop a = (vi n).take m → a ≤ bs.length →
    (gr most top bs (k + 1) i acc a).2.2 = 10 ∧ (gr most top bs (k + 1) i acc a).1 = 0 := by
  intro k
  induction k with
  | zero =>
    intro i n acc a m hi hn hm hd ha
    have hn1 : n < 128 := by simp at hn; omega
    rw [vi_lt hn1] at hm hd
    have h0 : m = 0 := by simp at hm; exact hm
    subst h0
    have hge : ¬ a < bs.length := fun h => by
      have := congrArg List.length hd
      simp at this; omega
    rw [gr, dif_neg hge]
    exact ⟨rfl, rfl⟩
  | succ k ih =>
    intro i n acc a m hi hn hm hd ha
    cases m with
    | zero =>
      have hge : ¬ a < bs.length := fun h => by
        have := congrArg List.length hd
        simp at this; omega
      rw [gr, dif_neg hge]
      exact ⟨rfl, rfl⟩
    | succ m =>
      obtain ⟨h1, h2, h3⟩ := vi_take_head n m [] hm
      rw [h2] at hd
      have hlt : a < bs.length := by
        rcases Nat.lt_or_ge a bs.length with h | h
        · exact h
        · rw [List.drop_of_length_le h] at hd; simp at hd
      have hb : bs[a] = UInt8.ofNat (n % 128 + 128) := by
        have : bs[a]? = some (UInt8.ofNat (n % 128 + 128)) := by
          have h0 : (bs.drop a)[0]? = some (UInt8.ofNat (n % 128 + 128)) := by rw [hd]; rfl
          rw [List.getElem?_drop] at h0
          simpa using h0
        rw [List.getElem?_eq_getElem hlt] at this
        exact Option.some.inj this
      have hbn : bs[a].toNat = n % 128 + 128 := by rw [hb, UInt8.toNat_ofNat_of_lt' (by simp [UInt8.size]; omega)]
      have hd2 : bs.drop (a + 1) = (vi (n / 128)).take m := by
        have := congrArg (List.drop 1) hd
        rw [List.drop_drop] at this
        simpa using this
      rw [gr, dif_pos hlt, hbn, if_neg (by omega), if_neg (by omega), if_neg (by omega)]
      refine ih (i + 1) (n / 128) _ (a + 1) m (by omega) ?_ h3 hd2 (by omega)
      rw [Nat.pow_succ, ← Nat.mul_assoc] at hn
      exact Nat.div_lt_of_lt_mul (by rw [Nat.mul_comm]; exact hn)
theorem ended_ten (r : RdS) (b : Nat) (e : Int) (hr : r.e = 0) (he : e = 10) : (ItS.mk 0 r b e).ended = { r with e := 10 } := by subst he; rw [ItS.ended, if_pos hr]; rfl
theorem got_cut (g : Nat) (v : Value) (bs : List UInt8) (a m : Nat) (x : ItA) (hx : x.fits) (h1 : 1 ≤ x.kind) (h2 : x.kind ≤ 5) (h3 : x.kind = 1 → 0 ≤ x.n) (ha : a ≤ bs.length) (hm : m < (enc x).length) (hd : bs.drop a = (enc x).take m) :
    (gotOf (RdS.mk g v bs a 0) x.kind).2 = RdS.mk g v bs a 10 := by
  obtain ⟨k, n, b, s⟩ := x
  obtain ⟨hx1, hx2, hx3⟩ := hx
  simp only [] at hx1 hx2 hx3 h1 h2 h3 ⊢
  have h63 : (127 + 1) * 128 ^ 8 = 9223372036854775808 := by decide
  have h64 : (1 + 1) * 128 ^ 9 = 18446744073709551616 := by decide
  have h264 : 2 ^ 64 = 18446744073709551616 := by decide
  have hnum : ∀ (N : Nat) (most big : Int) (j : Nat), N < 9223372036854775808 → j < (vi N).length → bs.drop a = (vi N).take j → (numOf most big bs a).2.2 = 10 := fun N most big j hN hj hd => by
    have h := gr_cut 9 127 (by omega) bs 8 0 N 0 a j rfl (by omega) hj hd ha
    unfold numOf
    simp only []
    rw [if_neg (by rw [h.1]; omega)]
    exact h.1
  have hk : k = 1 ∨ k = 2 ∨ k = 3 ∨ k = 4 ∨ k = 5 := by omega
  have hsome : (k = 4 ∨ k = 5) → ∀ most : Int, 140737488351232 ≤ most → (someOf most bs a).2.2 = 10 := fun hk most hmost => by
    have hE : enc ⟨k, n, b, s⟩ = vi s.size ++ s.data.toList := by rcases hk with rfl | rfl <;> rfl
    have hsz : s.data.toList.length = s.size := by rw [Array.length_toList]; rfl
    rw [hE] at hm hd
    by_cases hj : m < (vi s.size).length
    · rw [List.take_append_of_le_length (by omega)] at hd
      have h := hnum s.size most 14 m (by omega) hj hd
      unfold someOf
      simp only []
      rw [if_neg (by rw [h]; omega)]
      exact h
    · obtain ⟨j, rfl⟩ : ∃ j, m = (vi s.size).length + j := ⟨m - (vi s.size).length, by omega⟩
      rw [List.take_length_add_append] at hd
      have h := numOf_vi most 14 s.size bs (s.data.toList.take j) a (by omega) (by omega) hd
      have hl := congrArg List.length hd
      simp only [List.length_drop, List.length_append, List.length_take] at hl hm
      unfold someOf
      rw [h]
      simp only [if_true]
      rw [if_pos (by omega)]
  rcases hk with rfl | rfl | rfl | rfl | rfl
  · obtain ⟨N, rfl⟩ : ∃ N : Nat, n = N := ⟨n.toNat, by have := h3 rfl; omega⟩
    have h := hnum N 9223372036854775807 13 m (by omega) hm hd
    show ((RdS.mk g v bs a 0).num 9223372036854775807).2 = _
    unfold RdS.num
    rw [if_pos rfl]
    exact ended_ten (RdS.mk g v bs a 0) _ _ rfl (by first | exact h | (show (boolOf bs a).2.2 = 10; rw [h]))
  · have h := gr_cut 10 1 (by omega) bs 9 0 (zz n) 0 a m rfl (by have := zz_lt n hx2.1 hx2.2; omega) hm hd ha
    show ((RdS.mk g v bs a 0).signed).2 = _
    unfold RdS.signed
    rw [if_pos rfl]
    exact ended_ten (RdS.mk g v bs a 0) _ _ rfl (by first | exact h.1 | (show (boolOf bs a).2.2 = 10; rw [h.1]))
  · have h0 : m = 0 := by
      have : (enc ⟨3, n, b, s⟩).length = 1 := rfl
      omega
    subst h0
    have hge : ¬ a < bs.length := fun h => by
      have := congrArg List.length hd
      simp at this; omega
    have h : boolOf bs a = (false, a, 10) := by rw [boolOf, dif_neg hge]
    show ((RdS.mk g v bs a 0).bool).2 = _
    unfold RdS.bool
    rw [if_pos rfl]
    exact ended_ten (RdS.mk g v bs a 0) _ _ rfl (by first | exact h | (show (boolOf bs a).2.2 = 10; rw [h]))
  · have h := hsome (Or.inl rfl) 9223372036854775807 (by omega)
    show ((RdS.mk g v bs a 0).some 9223372036854775807).2 = _
    unfold RdS.some
    rw [if_pos rfl]
    exact ended_ten (RdS.mk g v bs a 0) _ _ rfl (by first | exact h | (show (boolOf bs a).2.2 = 10; rw [h]))
  · have h := hsome (Or.inr rfl) 9223372036854775807 (by omega)
    show ((RdS.mk g v bs a 0).some 9223372036854775807).2 = _
    unfold RdS.some
    rw [if_pos rfl]
    exact ended_ten (RdS.mk g v bs a 0) _ _ rfl (by first | exact h | (show (boolOf bs a).2.2 = 10; rw [h]))
end Go.Proofs.Ytkpgdonpmfebaaa.Bt
