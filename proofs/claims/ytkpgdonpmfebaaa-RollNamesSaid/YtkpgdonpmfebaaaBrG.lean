/- The reader of package bits: a number in groups. -/
import Derived.Test.YtkpgdonpmfebaaaBrO
namespace Go.Proofs.Ytkpgdonpmfebaaa.Bt
open Go.RowKit Go.Hp
attribute [local go_sem] min2_lean min_two max2_lean max_two
set_option linter.unusedSimpArgs false
set_option linter.unusedVariables false
set_option maxRecDepth 100000

/-- What is read in groups: the number, the place behind it, what is amiss. -/
def gr (most top : Nat) (bs : List UInt8) : Nat → Nat → Nat → Nat → Nat × Nat × Int
  | 0, _, n, a => (n, a, 0)
  | k + 1, i, n, a =>
    if h : a < bs.length then
      if i + 1 = most ∧ top < bs[a].toNat then (0, a + 1, 11)
      else if 0 < i ∧ bs[a].toNat = 0 then (0, a + 1, 12)
      else if bs[a].toNat < 128 then (n + bs[a].toNat * 128 ^ i, a + 1, 0)
      else gr most top bs k (i + 1) (n + (bs[a].toNat - 128) * 128 ^ i) (a + 1)
    else (0, a, 10)
theorem and127 (z : Nat) (hz : z < 256) : bits BinOp.and IntKind.u8 (z : Int) 127 = ((z % 128 : Nat) : Int) := by
  have h1 : ∀ a, a < 256 → a &&& 127 = a % 128 := by decide
  have h2 := u8_and_nat z 127 hz (by omega)
  rw [h1 z hz] at h2
  exact h2
theorem or_groups (n z i : Nat) (hz : z < 256) (hn : n < 128 ^ i) (hi : i ≤ 9) (h9 : i = 9 → z % 128 ≤ 1) :
    bits BinOp.or IntKind.u64 (n : Int) (IntKind.u64.wrap (IntKind.u64.wrap (bits BinOp.and IntKind.u8 (z : Int) 127) * 2 ^ (7 * i))) = ((n + (z % 128) * 128 ^ i : Nat) : Int) := by
  rw [and127 z hz]
  have hp : (2 : Nat) ^ (7 * i) = 128 ^ i := by rw [Nat.pow_mul]
  have hzm : z % 128 < 128 := Nat.mod_lt _ (by omega)
  have hb : (z % 128) * 128 ^ i < 2 ^ 64 := by
    by_cases h : i = 9
    · subst h
      have := h9 rfl
      have h3 : (128 : Nat) ^ 9 * 2 ≤ 2 ^ 64 := by decide
      have : (z % 128) * 128 ^ 9 ≤ 1 * 128 ^ 9 := Nat.mul_le_mul_right _ this
      have h4 : (0 : Nat) < 128 ^ 9 := by decide
      omega
    · have h1 : (128 : Nat) ^ i ≤ 128 ^ 8 := Nat.pow_le_pow_right (by decide) (by omega)
      have h2 : (z % 128) * 128 ^ i ≤ 127 * 128 ^ 8 := Nat.mul_le_mul (by omega) h1
      have h3 : (127 : Nat) * 128 ^ 8 < 2 ^ 64 := by decide
      omega
  have e1 : IntKind.u64.wrap (((z % 128 : Nat)) : Int) = ((z % 128 : Nat) : Int) := by rw [IntKind.wrap_u64]; omega
  have e2 : IntKind.u64.wrap (((z % 128 : Nat) : Int) * 2 ^ (7 * i)) = (((z % 128) * 128 ^ i : Nat) : Int) := by
    have : ((z % 128 : Nat) : Int) * 2 ^ (7 * i) = (((z % 128) * 128 ^ i : Nat) : Int) := by rw [← hp]; push_cast; rfl
    rw [this, IntKind.wrap_u64]
    omega
  have hn2 : n < 2 ^ 64 := by
    have : (128 : Nat) ^ i ≤ 128 ^ 9 := Nat.pow_le_pow_right (by decide) hi
    have h3 : (128 : Nat) ^ 9 < 2 ^ 64 := by decide
    omega
  rw [e1, e2, u64_or_nat _ _ hn2 hb]
  congr 1
  rw [← hp] at hn ⊢
  rw [Nat.or_comm, ← Nat.shiftLeft_eq, ← Nat.shiftLeft_add_eq_or_of_lt hn, Nat.shiftLeft_eq]
  omega
set_option maxHeartbeats 1000000 in
theorem groups_ok (s : ItS) (most top : Nat) (w : World) (hs : s.own.holds w) (he : s.e = 0) (ha : s.at_ ≤ s.r.bs.length) (hl : s.r.bs.length < 4611686018427387904) (hm : most ≤ 10) (ht : top ≤ 127) (ht2 : most = 10 → top ≤ 1) :
    Calls Try.prog 95 #[.pointer (some ⟨s.x, 0, none⟩), .int .i64 most, .int .u8 top] w fun r w' =>
      r = .returned (.int .u64 (gr most top s.r.bs most 0 0 s.at_).1) ∧ Turns w w' s.own ({ s with at_ := (gr most top s.r.bs most 0 0 s.at_).2.1, e := (gr most top s.r.bs most 0 0 s.at_).2.2 } : ItS).own := by
  obtain ⟨x, r, at_, e⟩ := s
  simp only [] at he ha hl
  subst he
  have HS := Lib.hid (Turns.refl hs)
  have HA := Lib.hid ha
  clear hs ha
  obtain ⟨G, hG⟩ : ∃ G, G = gr most top r.bs most 0 0 at_ := ⟨_, rfl⟩
  have HG := Lib.hid hG
  simp only []
  rw [← hG]
  clear hG
  go_enter Try.func95, Try.ntmps95
  go_wp2_with fail
  go_loopw [7, 11] (fun x7 x11 wr => ∃ (n i a : Nat), x7 = .int .u64 n ∧ x11 = .int .i64 i ∧ i ≤ most ∧ n < 128 ^ i ∧ a ≤ r.bs.length ∧ gr most top r.bs (most - i) i n a = G ∧ Turns w wr (ItS.mk x r at_ 0).own (ItS.mk x r a 0).own) (fun _ x11 _ => most - (intOf x11).toNat)
  case atStart => exact ⟨0, 0, at_, rfl, rfl, Nat.zero_le _, by simp, HA.out, HG.out.symm, HS.out⟩
  case round =>
    obtain ⟨n, i, a, rfl, rfl, hi, hn, hal, hg, hT⟩ := hrel
    have HT := Lib.hid hT
    have HGG := Lib.hid hg
    have HN := Lib.hid hn
    clear hT hg hn
    by_cases him : i < most
    · have hd : decide ((i : Int) < (most : Int)) = true := by simp; omega
      obtain ⟨k, hk⟩ : ∃ k, most - i = k + 1 := ⟨most - i - 1, by omega⟩
      rw [hk] at HGG
      by_cases haa : a < r.bs.length
      · obtain ⟨z, hz⟩ : ∃ z, r.bs[a].toNat = z := ⟨_, rfl⟩
        have hz8 : z < 256 := by rw [← hz]; exact r.bs[a].toNat_lt
        have HB : Hid (bv r.bs[a] = .int .u8 z) := by show bv r.bs[a] = _; rw [← hz]; rfl
        have HGG2 : Hid ((if i + 1 = most ∧ top < z then (0, a + 1, 11) else if 0 < i ∧ z = 0 then (0, a + 1, 12) else if z < 128 then (n + z * 128 ^ i, a + 1, 0) else gr most top r.bs k (i + 1) (n + (z - 128) * 128 ^ i) (a + 1)) = G) := by
          have := HGG.out
          rw [gr, dif_pos haa, hz] at this
          exact this
        clear HGG hz
        have HO1 := Lib.hid (one_ok (ItS.mk x r a 0) _ HT.out.now rfl haa hl)
        rw [HB.out] at HO1
        by_cases t1 : i + 1 = most ∧ top < z
        · have hd1 : ((i : Int) == (most : Int) - 1) = true := by simp; omega
          have hd2 : decide ((top : Int) < (z : Int)) = true := by simp; omega
          go_wp2_with (first
            | (go_at_call 98; refine HO1.out.mono ?_; rintro q w1 ⟨rfl, ht1⟩; have HT1 := Lib.hid (HT.out.trans ht1); have k2 := (ItS.cells ht1.now).2.2.1; have kf := (ItS.cells ht1.now).2.2.2.2; clear ht1; simp only [] at k2 kf)
            | (go_at_call 99; refine (fail_new x 11 _ (by exact k2) (by exact kf)).mono ?_; rintro q w2 ⟨rfl, rfl⟩))
          go_ret
          have := HGG2.out
          rw [if_pos t1] at this
          rw [← this]
          exact ⟨rfl, HT1.out.trans (ItS.setE HT1.out.now 11)⟩
        · have HGG3 := HGG2.out
          rw [if_neg t1] at HGG3
          have HGG4 := Lib.hid HGG3
          clear HGG2 HGG3
          have HA1 : (((i : Int) == (most : Int) - 1) = true ∧ decide (top < z) = false) ∨ (((i : Int) == (most : Int) - 1) = false ∧ True) := by
            by_cases h : i + 1 = most
            · left
              constructor
              · simp; omega
              · simp; omega
            · right
              constructor
              · simp; omega
              · trivial
          by_cases t2 : 0 < i ∧ z = 0
          · have hd3 : decide (0 < (i : Int)) = true := by simp; omega
            have hd4 : ((z : Int) == 0) = true := by simp; omega
            rcases HA1 with ⟨q1, q2⟩ | ⟨q1, q2⟩
            all_goals
              go_wp2_with (first
                | (go_at_call 98; refine HO1.out.mono ?_; rintro q w1 ⟨rfl, ht1⟩; have HT1 := Lib.hid (HT.out.trans ht1); have k2 := (ItS.cells ht1.now).2.2.1; have kf := (ItS.cells ht1.now).2.2.2.2; clear ht1; simp only [] at k2 kf)
                | (go_at_call 99; refine (fail_new x 12 _ (by exact k2) (by exact kf)).mono ?_; rintro q w2 ⟨rfl, rfl⟩))
              go_ret
              have := HGG4.out
              rw [if_pos t2] at this
              rw [← this]
              exact ⟨rfl, HT1.out.trans (ItS.setE HT1.out.now 12)⟩
          · have HGG3 := HGG4.out
            rw [if_neg t2] at HGG3
            have HGG5 := Lib.hid HGG3
            clear HGG4 HGG3
            have HOR := Lib.hid (or_groups n z i hz8 HN.out (by omega) (fun h => by
              have := Nat.mod_lt z (show 0 < 128 by omega)
              have h10 : most = 10 := by omega
              have := ht2 h10
              have : z ≤ top := by
                rcases Nat.lt_or_ge top z with h1 | h1
                · exact absurd ⟨by omega, h1⟩ t1
                · exact h1
              omega))
            have HA2 : (decide (0 < i) = false ∧ True) ∨ (decide (0 < i) = true ∧ ((z : Int) == 0) = false) := by
              by_cases h : i = 0
              · left; exact ⟨by simp; omega, trivial⟩
              · right; exact ⟨by simp; omega, by simp; omega⟩
            by_cases t3 : z < 128
            · have hd5 : decide ((z : Int) < 128) = true := by simp; omega
              rcases HA1 with ⟨q1, q2⟩ | ⟨q1, q2⟩ <;> rcases HA2 with ⟨q3, q4⟩ | ⟨q3, q4⟩
              all_goals
                go_wp2_with (first
                  | (go_at_call 98; refine HO1.out.mono ?_; rintro q w1 ⟨rfl, ht1⟩; have HT1 := Lib.hid (HT.out.trans ht1); have k2 := (ItS.cells ht1.now).2.2.1; have kf := (ItS.cells ht1.now).2.2.2.2; clear ht1; simp only [] at k2 kf))
                go_ret
                have := HGG5.out
                rw [if_pos t3] at this
                rw [← this]
                refine ⟨?_, HT1.out⟩
                simp only [Array.getD, go_sem]
                have h6 := HOR.out
                rw [Nat.mod_eq_of_lt t3] at h6
                simp [h6]
            · have hd5 : decide ((z : Int) < 128) = false := by simp; omega
              rcases HA1 with ⟨q1, q2⟩ | ⟨q1, q2⟩
              · exfalso
                simp at q2
                omega
              rcases HA2 with ⟨q3, q4⟩ | ⟨q3, q4⟩
              all_goals
                go_wp2_with (first
                  | (go_at_call 98; refine HO1.out.mono ?_; rintro q w1 ⟨rfl, ht1⟩; have HT1 := Lib.hid (HT.out.trans ht1); have k2 := (ItS.cells ht1.now).2.2.1; have kf := (ItS.cells ht1.now).2.2.2.2; clear ht1; simp only [] at k2 kf))
                go_roundw
                case rel =>
                  refine ⟨n + (z % 128) * 128 ^ i, i + 1, a + 1, by rw [HOR.out], by simp, by omega, ?_, by omega, ?_, HT1.out⟩
                  · have h1 := HN.out
                    have h2 := Nat.mod_lt z (show 0 < 128 by omega)
                    have h3 : (z % 128) * 128 ^ i ≤ 127 * 128 ^ i := Nat.mul_le_mul_right _ (by omega)
                    rw [Nat.pow_succ]
                    omega
                  · have := HGG5.out
                    rw [if_neg t3] at this
                    rw [← this, show most - (i + 1) = k by omega, show z % 128 = z - 128 by omega]
                case measure => simp [intOf]; omega
      · have hd2 : a = r.bs.length := by omega
        have HO1 := Lib.hid (one_short (ItS.mk x r a 0) _ HT.out.now rfl hd2 hl)
        go_wp2_with (first
          | (go_at_call 98; refine HO1.out.mono ?_; rintro q w1 ⟨rfl, ht1⟩; have HT1 := Lib.hid (HT.out.trans ht1); have k2 := (ItS.cells ht1.now).2.2.1; clear ht1; simp only [] at k2))
        go_ret
        have := HGG.out
        rw [gr, dif_neg haa] at this
        rw [← this]
        exact ⟨rfl, HT1.out⟩
    · have hd : decide ((i : Int) < (most : Int)) = false := by simp; omega
      go_wp2_with fail
      go_ret
      have := HGG.out
      rw [show most - i = 0 by omega, gr] at this
      rw [← this]
      exact ⟨rfl, HT.out⟩
end Go.Proofs.Ytkpgdonpmfebaaa.Bt
