/- What is read whole is written just so. Plain. -/
import Derived.Test.YtkpgdonpmfebaaaBlW8
namespace Go.Proofs.Ytkpgdonpmfebaaa.Bt
open Go.RowKit Go.Hp
attribute [local go_sem] min2_lean min_two max2_lean max_two
set_option linter.unusedSimpArgs false
set_option linter.unusedVariables false
set_option maxRecDepth 100000
theorem ofNat_toNat (z : UInt8) : UInt8.ofNat z.toNat = z := by simp
theorem drop_cons {bs : List UInt8} {a : Nat} (h : a < bs.length) : bs.drop a = bs[a] :: bs.drop (a + 1) := List.drop_eq_getElem_cons h
theorem gr_inv (most top : Nat) (ht : top ≤ 127) (bs : List UInt8) : ∀ k i acc a n a', i + (k + 1) = most → gr most top bs (k + 1) i acc a = (n, a', 0) →
    ∃ d, n = acc + d * 128 ^ i ∧ bs.drop a = vi d ++ bs.drop a' ∧ (0 < i → 0 < d) ∧ d < (top + 1) * 128 ^ k ∧ a < a' ∧ a' ≤ bs.length := by
  intro k
  induction k with
  | zero =>
    intro i acc a n a' hi h
    rw [gr] at h
    split at h
    · rename_i hlt
      have hz : bs[a].toNat < 256 := bs[a].toNat_lt
      split at h
      · simp at h
      · split at h
        · simp at h
        · split at h
          · rename_i h1 h2 h3
            obtain ⟨rfl, rfl, _⟩ : acc + bs[a].toNat * 128 ^ i = n ∧ a + 1 = a' ∧ True := by simpa using h
            refine ⟨bs[a].toNat, rfl, ?_, fun h => by omega, by simp; omega, by omega, by omega⟩
            rw [vi_lt h3, ofNat_toNat, drop_cons hlt]; rfl
          · rename_i h1 h2 h3
            omega
    · simp at h
  | succ k ih =>
    intro i acc a n a' hi h
    rw [gr] at h
    split at h
    · rename_i hlt
      have hz : bs[a].toNat < 256 := bs[a].toNat_lt
      split at h
      · simp at h
      · split at h
        · simp at h
        · split at h
          · rename_i h1 h2 h3
            obtain ⟨rfl, rfl, _⟩ : acc + bs[a].toNat * 128 ^ i = n ∧ a + 1 = a' ∧ True := by simpa using h
            refine ⟨bs[a].toNat, rfl, ?_, fun h => by omega, ?_, by omega, by omega⟩
            · rw [vi_lt h3, ofNat_toNat, drop_cons hlt]; rfl
            · have : 1 * 128 ^ (k + 1) ≤ (top + 1) * 128 ^ (k + 1) := Nat.mul_le_mul_right _ (by omega)
              have h128 : 128 ^ 1 ≤ 128 ^ (k + 1) := Nat.pow_le_pow_right (by omega) (by omega)
              omega
          · rename_i h1 h2 h3
            obtain ⟨d, rfl, hd, hp, hl, h4, h5⟩ := ih (i + 1) _ (a + 1) n a' (by omega) h
            have hp := hp (by omega)
            refine ⟨bs[a].toNat - 128 + 128 * d, ?_, ?_, fun _ => by omega, ?_, by omega, h5⟩
            · rw [Nat.add_mul, Nat.pow_succ, Nat.add_assoc, Nat.mul_comm (128 ^ i) 128, ← Nat.mul_assoc, Nat.mul_comm d 128]
            · rw [vi_ge (by omega), drop_cons hlt, hd]
              have e1 : (bs[a].toNat - 128 + 128 * d) % 128 + 128 = bs[a].toNat := by omega
              have e2 : (bs[a].toNat - 128 + 128 * d) / 128 = d := by omega
              rw [e1, e2, ofNat_toNat]
              rfl
            · rw [Nat.pow_succ, ← Nat.mul_assoc]
              omega
    · simp at h
theorem zz_uz (n : Nat) : zz (uz n) = n := by
  unfold uz zz
  split <;> split <;> omega
theorem numOf_inv (most big : Int) (hb : big ≠ 0) (bs : List UInt8) (a a' : Nat) (n : Int) (h : numOf most big bs a = (n, a', 0)) : ∃ N : Nat, n = N ∧ N < 9223372036854775808 ∧ bs.drop a = vi N ++ bs.drop a' ∧ a < a' ∧ a' ≤ bs.length := by
  have h63 : (127 + 1) * 128 ^ 8 = 9223372036854775808 := by decide
  unfold numOf at h
  rcases hq : gr 9 127 bs 9 0 0 a with ⟨q1, q2, q3⟩
  rw [hq] at h
  simp only [] at h
  split at h
  · rename_i h3
    subst h3
    split at h
    · simp [hb] at h
    · obtain ⟨d, hd1, hd2, _, hd4, hd5, hd6⟩ := gr_inv 9 127 (by omega) bs 8 0 0 a q1 q2 rfl hq
      obtain ⟨rfl, rfl, _⟩ : (q1 : Int) = n ∧ q2 = a' ∧ True := by simpa using h
      have h9 : q1 = d := by simpa using hd1
      exact ⟨d, by rw [h9], by omega, hd2, hd5, hd6⟩
  · rename_i h3
    have : q3 = 0 := by simpa using congrArg (fun x => x.2.2) h
    exact absurd this h3
theorem someOf_inv (most : Int) (bs : List UInt8) (a a' : Nat) (l : List UInt8) (h : someOf most bs a = (l, a', 0)) : bs.drop a = (vi l.length ++ l) ++ bs.drop a' ∧ a + l.length < a' ∧ a' ≤ bs.length ∧ l.length < 9223372036854775808 := by
  unfold someOf at h
  rcases hq : numOf most 14 bs a with ⟨q1, q2, q3⟩
  rw [hq] at h
  simp only [] at h
  split at h
  · rename_i h3
    subst h3
    split at h
    · simp at h
    · rename_i h4
      obtain ⟨N, rfl, hN, hd, h5, h6⟩ := numOf_inv most 14 (by omega) bs a q2 q1 hq
      simp only [Int.toNat_natCast] at h
      obtain ⟨rfl, rfl, _⟩ : (bs.drop q2).take N = l ∧ q2 + N = a' ∧ True := by simpa using h
      have hl : ((bs.drop q2).take N).length = N := by rw [List.length_take, List.length_drop]; omega
      rw [hl]
      refine ⟨?_, by omega, by omega, hN⟩
      rw [List.append_assoc, ← List.drop_drop, List.take_append_drop]
      exact hd
  · rename_i h3
    have : q3 = 0 := by simpa using congrArg (fun x => x.2.2) h
    exact absurd this h3
theorem take_of_drop {bs l : List UInt8} {a a' : Nat} (h : bs.drop a = l ++ bs.drop a') (h1 : a ≤ a') (h2 : a' ≤ bs.length) : bs.take a' = bs.take a ++ l ∧ a' = a + l.length := by
  have hl : a' = a + l.length := by
    have := congrArg List.length h
    simp only [List.length_drop, List.length_append] at this
    omega
  refine ⟨?_, hl⟩
  have e : bs.take a' = bs.take a ++ (bs.drop a).take l.length := by rw [hl, List.take_add]
  rw [e, h, List.take_left]
/-- What one item leaves. -/
structure Step (g : Nat) (v : Value) (bs : List UInt8) (a : Nat) (e k : Int) (x : ItA) (a2 : Nat) (e2 : Int) : Prop where
  out : gotOf (RdS.mk g v bs a e) k = (x, RdS.mk g v bs a2 e2)
  kind : x.kind = k
  fits : x.fits
  pos : x.kind = 1 → 0 ≤ x.n
  le : a ≤ a2
  end_ : a2 ≤ bs.length
  size : a + x.s.size ≤ a2
  whole : e2 = 0 → e = 0 ∧ bs.take a2 = bs.take a ++ enc x
theorem ended_is (g : Nat) (v : Value) (bs : List UInt8) (a b : Nat) (e : Int) : (ItS.mk 0 (RdS.mk g v bs a 0) b e).ended = if e = 0 then RdS.mk g v bs b 0 else RdS.mk g v bs a e := by
  unfold ItS.ended
  rw [if_pos rfl]
theorem fits0 (k n : Int) (b : Bool) (hk : 1 ≤ k) (hk5 : k ≤ 5) (h0 : -9223372036854775808 ≤ n) (h1 : n ≤ 9223372036854775807) : (ItA.mk k n b ⟨#[]⟩).fits := ⟨⟨by simp only []; omega, by simp only []; omega⟩, ⟨h0, h1⟩, by show (0 : Nat) ≤ _; omega⟩
theorem size_of (l : List UInt8) : (⟨l.toArray⟩ : ByteArray).size = l.length := by show l.toArray.size = _; simp
theorem step_num (g : Nat) (v : Value) (bs : List UInt8) (a : Nat) (e : Int) (ha : a ≤ bs.length) : ∃ x a2 e2, Step g v bs a e 1 x a2 e2 := by
  have hd : gotOf (RdS.mk g v bs a e) 1 = (⟨1, ((RdS.mk g v bs a e).num 9223372036854775807).1, false, ⟨#[]⟩⟩, ((RdS.mk g v bs a e).num 9223372036854775807).2) := rfl
  by_cases he : e = 0
  · subst he
    rcases hq : numOf 9223372036854775807 13 bs a with ⟨n, b, c⟩
    have hn := numOf_bounds 9223372036854775807 13 bs a ha (by omega)
    rw [hq] at hn
    have hr : (RdS.mk g v bs a 0).num 9223372036854775807 = (n, if c = 0 then RdS.mk g v bs b 0 else RdS.mk g v bs a c) := by
      unfold RdS.num
      rw [if_pos rfl, hq, ended_is]
    rw [hr] at hd
    by_cases hc : c = 0
    · subst hc
      rw [if_pos rfl] at hd
      obtain ⟨N, rfl, hN, h1, h2, h3⟩ := numOf_inv _ _ (by omega) bs a b n hq
      exact ⟨_, _, _, ⟨hd, rfl, fits0 _ _ _ (by omega) (by omega) (by omega) (by omega), fun _ => by simp only []; omega, by omega, h3, by show a + 0 ≤ b; omega, fun _ => ⟨rfl, (take_of_drop h1 (by omega) h3).1⟩⟩⟩
    · rw [if_neg hc] at hd
      simp only [] at hn
      exact ⟨_, _, _, ⟨hd, rfl, fits0 _ _ _ (by omega) (by omega) (by omega) (by omega), fun _ => hn.1, by omega, ha, by show a + 0 ≤ a; omega, fun h => absurd h hc⟩⟩
  · have hr : (RdS.mk g v bs a e).num 9223372036854775807 = (0, RdS.mk g v bs a e) := by
      unfold RdS.num
      rw [if_neg he]
    rw [hr] at hd
    exact ⟨_, _, _, ⟨hd, rfl, fits0 _ _ _ (by omega) (by omega) (by omega) (by omega), fun _ => by simp, by omega, ha, by show a + 0 ≤ a; omega, fun h => absurd h he⟩⟩
theorem step_signed (g : Nat) (v : Value) (bs : List UInt8) (a : Nat) (e : Int) (ha : a ≤ bs.length) : ∃ x a2 e2, Step g v bs a e 2 x a2 e2 := by
  have hd : gotOf (RdS.mk g v bs a e) 2 = (⟨2, ((RdS.mk g v bs a e).signed).1, false, ⟨#[]⟩⟩, ((RdS.mk g v bs a e).signed).2) := rfl
  have h64 : (1 + 1) * 128 ^ 9 = 18446744073709551616 := by decide
  by_cases he : e = 0
  · subst he
    rcases hq : gr 10 1 bs 10 0 0 a with ⟨n, b, c⟩
    have hr : (RdS.mk g v bs a 0).signed = (if c = 0 then uz n else 0, if c = 0 then RdS.mk g v bs b 0 else RdS.mk g v bs a c) := by
      unfold RdS.signed
      rw [if_pos rfl, hq, ended_is]
    rw [hr] at hd
    by_cases hc : c = 0
    · subst hc
      rw [if_pos rfl, if_pos rfl] at hd
      obtain ⟨d, h1, h2, _, h4, h5, h6⟩ := gr_inv 10 1 (by omega) bs 9 0 0 a n b rfl hq
      obtain rfl : n = d := by simpa using h1
      have hu : -9223372036854775808 ≤ uz n ∧ uz n ≤ 9223372036854775807 := by
        rw [h64] at h4
        unfold uz
        split <;> omega
      refine ⟨_, _, _, ⟨hd, rfl, fits0 _ _ _ (by omega) (by omega) hu.1 hu.2, fun h => by simp at h, by omega, h6, by show a + 0 ≤ b; omega, fun _ => ⟨rfl, ?_⟩⟩⟩
      have : enc ⟨2, uz n, false, ⟨#[]⟩⟩ = vi n := by show vi (zz (uz n)) = _; rw [zz_uz]
      rw [this]
      exact (take_of_drop h2 (by omega) h6).1
    · rw [if_neg hc, if_neg hc] at hd
      exact ⟨_, _, _, ⟨hd, rfl, fits0 _ _ _ (by omega) (by omega) (by omega) (by omega), fun h => by simp at h, by omega, ha, by show a + 0 ≤ a; omega, fun h => absurd h hc⟩⟩
  · have hr : (RdS.mk g v bs a e).signed = (0, RdS.mk g v bs a e) := by
      unfold RdS.signed
      rw [if_neg he]
    rw [hr] at hd
    exact ⟨_, _, _, ⟨hd, rfl, fits0 _ _ _ (by omega) (by omega) (by omega) (by omega), fun h => by simp at h, by omega, ha, by show a + 0 ≤ a; omega, fun h => absurd h he⟩⟩
theorem step_bool (g : Nat) (v : Value) (bs : List UInt8) (a : Nat) (e : Int) (ha : a ≤ bs.length) : ∃ x a2 e2, Step g v bs a e 3 x a2 e2 := by
  have hd : gotOf (RdS.mk g v bs a e) 3 = (⟨3, 0, ((RdS.mk g v bs a e).bool).1, ⟨#[]⟩⟩, ((RdS.mk g v bs a e).bool).2) := rfl
  by_cases he : e = 0
  · subst he
    rcases hq : boolOf bs a with ⟨n, b, c⟩
    have hr : (RdS.mk g v bs a 0).bool = (n, if c = 0 then RdS.mk g v bs b 0 else RdS.mk g v bs a c) := by
      unfold RdS.bool
      rw [if_pos rfl, hq, ended_is]
    rw [hr] at hd
    by_cases hc : c = 0
    · subst hc
      rw [if_pos rfl] at hd
      unfold boolOf at hq
      split at hq
      · rename_i hlt
        split at hq
        · simp at hq
        · rename_i h1
          obtain ⟨rfl, rfl, _⟩ : decide (bs[a].toNat = 1) = n ∧ a + 1 = b ∧ True := by simpa using hq
          refine ⟨_, _, _, ⟨hd, rfl, fits0 _ _ _ (by omega) (by omega) (by omega) (by omega), fun h => by simp at h, by omega, by omega, by show a + 0 ≤ a + 1; omega, fun _ => ⟨rfl, ?_⟩⟩⟩
          refine (take_of_drop (l := enc ⟨3, 0, decide (bs[a].toNat = 1), ⟨#[]⟩⟩) ?_ (by omega) (by omega)).1
          rw [drop_cons hlt]
          have hb : bs[a] = if decide (bs[a].toNat = 1) then 1 else 0 := by
            apply UInt8.toNat_inj.1
            by_cases h : bs[a].toNat = 1
            · simp [h]
            · simp [h]; omega
          show _ = [if decide (bs[a].toNat = 1) then 1 else 0] ++ _
          rw [← hb]; rfl
      · simp at hq
    · rw [if_neg hc] at hd
      exact ⟨_, _, _, ⟨hd, rfl, fits0 _ _ _ (by omega) (by omega) (by omega) (by omega), fun h => by simp at h, by omega, ha, by show a + 0 ≤ a; omega, fun h => absurd h hc⟩⟩
  · have hr : (RdS.mk g v bs a e).bool = (false, RdS.mk g v bs a e) := by
      unfold RdS.bool
      rw [if_neg he]
    rw [hr] at hd
    exact ⟨_, _, _, ⟨hd, rfl, fits0 _ _ _ (by omega) (by omega) (by omega) (by omega), fun h => by simp at h, by omega, ha, by show a + 0 ≤ a; omega, fun h => absurd h he⟩⟩
theorem step_some (g : Nat) (v : Value) (bs : List UInt8) (a : Nat) (e k : Int) (hk : k = 4 ∨ k = 5) (ha : a ≤ bs.length) (hl : bs.length ≤ 140737488351232) : ∃ x a2 e2, Step g v bs a e k x a2 e2 := by
  have hd : gotOf (RdS.mk g v bs a e) k = (⟨k, 0, false, ⟨((RdS.mk g v bs a e).some 9223372036854775807).1.toArray⟩⟩, ((RdS.mk g v bs a e).some 9223372036854775807).2) := by rcases hk with rfl | rfl <;> rfl
  have hE : ∀ s, enc ⟨k, 0, false, s⟩ = vi s.size ++ s.data.toList := fun s => by rcases hk with rfl | rfl <;> rfl
  by_cases he : e = 0
  · subst he
    rcases hq : someOf 9223372036854775807 bs a with ⟨l, b, c⟩
    have hsl := someOf_len 9223372036854775807 bs a
    rw [hq] at hsl
    have hr : (RdS.mk g v bs a 0).some 9223372036854775807 = (l, if c = 0 then RdS.mk g v bs b 0 else RdS.mk g v bs a c) := by
      unfold RdS.some
      rw [if_pos rfl, hq, ended_is]
    rw [hr] at hd
    by_cases hc : c = 0
    · subst hc
      rw [if_pos rfl] at hd
      obtain ⟨h1, h2, h3, h4⟩ := someOf_inv _ bs a b l hq
      refine ⟨_, _, _, ⟨hd, rfl, ⟨⟨by simp only []; omega, by simp only []; omega⟩, ⟨by simp, by simp⟩, by simp only [size_of]; simp only [] at hsl; omega⟩, fun h => by simp only [] at h; omega, by omega, h3, by simp only [size_of]; omega, fun _ => ⟨rfl, ?_⟩⟩⟩
      rw [hE, size_of]
      exact (take_of_drop h1 (by omega) h3).1
    · rw [if_neg hc] at hd
      have hl0 : l = [] := by
        unfold someOf at hq
        simp only [] at hq
        split at hq
        · split at hq
          · exact (by simpa using (congrArg (fun x => x.1) hq).symm)
          · exact absurd (by simpa using (congrArg (fun x => x.2.2) hq).symm) hc
        · exact (by simpa using (congrArg (fun x => x.1) hq).symm)
      subst hl0
      exact ⟨_, _, _, ⟨hd, rfl, fits0 _ _ _ (by omega) (by omega) (by omega) (by omega), fun h => by simp only [] at h; omega, by omega, ha, by show a + 0 ≤ a; omega, fun h => absurd h hc⟩⟩
  · have hr : (RdS.mk g v bs a e).some 9223372036854775807 = ([], RdS.mk g v bs a e) := by
      unfold RdS.some
      rw [if_neg he]
    rw [hr] at hd
    exact ⟨_, _, _, ⟨hd, rfl, fits0 _ _ _ (by omega) (by omega) (by omega) (by omega), fun h => by simp only [] at h; omega, by omega, ha, by show a + 0 ≤ a; omega, fun h => absurd h he⟩⟩
theorem step_any (g : Nat) (v : Value) (bs : List UInt8) (a : Nat) (e k : Int) (h1 : 1 ≤ k) (h5 : k ≤ 5) (ha : a ≤ bs.length) (hl : bs.length ≤ 140737488351232) : ∃ x a2 e2, Step g v bs a e k x a2 e2 := by
  have hk : k = 1 ∨ k = 2 ∨ k = 3 ∨ k = 4 ∨ k = 5 := by omega
  rcases hk with rfl | rfl | rfl | rfl | rfl
  · exact step_num g v bs a e ha
  · exact step_signed g v bs a e ha
  · exact step_bool g v bs a e ha
  · exact step_some g v bs a e 4 (Or.inl rfl) ha hl
  · exact step_some g v bs a e 5 (Or.inr rfl) ha hl
end Go.Proofs.Ytkpgdonpmfebaaa.Bt
