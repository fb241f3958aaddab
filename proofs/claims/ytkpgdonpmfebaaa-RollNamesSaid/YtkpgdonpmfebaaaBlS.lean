/- The law's helpers: same, copied. -/
import Derived.Test.YtkpgdonpmfebaaaBx2
import Derived.Test.YtkpgdonpmfebaaaBrY
namespace Go.Proofs.Ytkpgdonpmfebaaa.Bt
open Go.RowKit Go.Hp
attribute [local go_sem] min2_lean min_two max2_lean max_two
set_option linter.unusedSimpArgs false
set_option linter.unusedVariables false
set_option maxRecDepth 100000

theorem Src.at_ {w : World} {A : Option Addr} {n c : Nat} {xs : List UInt8} (h : Src w (.slice A n c) n 1 (xs.map bv)) (k : Nat) (hk : k < n) : ∃ ad, A = some ad ∧ ∃ hx : k < xs.length, w.cell? (ad.add k) = some (bv xs[k]) := by
  have hl : xs.length = n := by have := h.1; simpa using this
  rcases h.2 with ⟨c', h1, h0⟩ | ⟨ad, c', h1, hc⟩
  · omega
  · have hA : A = some ad := by simpa using (Value.slice.inj h1).1
    exact ⟨ad, hA, by omega, hc k _ (by simp [show k < xs.length by omega])⟩
theorem copied_any (A : Option Addr) (n c : Nat) (xs : List UInt8) (w : World) (hx : Src w (.slice A n c) n 1 (xs.map bv)) (hl : n ≤ 140737488355328) :
    Calls Try.prog 70 #[.slice A n c] w fun r w' => r = .returned (.slice (some ⟨w.heap.size, 0, none⟩) n n) ∧ Turns w w' Own.emp (Own.row 5 1 (.slice (some ⟨w.heap.size, 0, none⟩) n n) n (xs.map bv)) := by
  obtain ⟨i0, hi0, hz0, hz1, hz2⟩ := info_parts Try.info5
  have HX := Lib.hid hx
  clear hx
  go_enter Try.func70, Try.ntmps70
  go_wp2_with (first
    | (at_make; refine wpList_make_full _ rfl _ _ 38 rfl 0 5 i0 (.int .u8 0) 1 Try.underlying38 hi0 hz0 hz1 .i64 .i64 n n n rfl rfl rfl rfl (by rw [hz2]; omega) (by simp only [maxLen]; omega) (Nat.zero_le _) ?_; intro w1 ho1 hg1; have HM1 := Lib.hid (Turns.made ho1 hg1); have HO1 := Lib.hid ho1; clear ho1 hg1)
    | (refine wpList_copy_all _ rfl (.tmp 7) (.tmp 8) 38 38 rfl 5 Try.underlying38 (by rw [hi0]; simp [hz1]) _ 0 n _ rfl HO1.out _ (xs.map bv) rfl (Src.keep HX.out (HM1.out.chg.mono (fun _ _ h => h))) (by simp [bv, Value.oneCell']) ?_; intro w2 ho2 hg2; have HT2 := Lib.hid (HM1.out.trans (Turns.row ho2 hg2 (Or.inl rfl))); clear ho2 hg2))
  go_ret
  exact ⟨rfl, HT2.out⟩
theorem same_any (A B : Option Addr) (n m c d : Nat) (xs ys : List UInt8) (w : World) (hx : Src w (.slice A n c) n 1 (xs.map bv)) (hy : Src w (.slice B m d) m 1 (ys.map bv)) (hl : n ≤ 140737488355328) :
    Calls Try.prog 20 #[.slice A n c, .slice B m d] w fun r w' => r = .returned (.bool (decide (xs = ys))) ∧ ∃ k, w.drewN k = w' := by
  have hxl : xs.length = n := by have := hx.1; simpa using this
  have hyl : ys.length = m := by have := hy.1; simpa using this
  by_cases hnm : n = m
  · subst hnm
    have hd : ((n : Int) != (n : Int)) = false := by simp
    have HX := Lib.hid hx
    have HY := Lib.hid hy
    have HXL := Lib.hid hxl
    have HYL := Lib.hid hyl
    clear hx hy hxl hyl
    go_enter Try.func20, Try.ntmps20
    go_wp2_with fail
    go_loopw [5] (fun x5 wr => ∃ k : Nat, x5 = .int .i64 k ∧ k ≤ n ∧ xs.take k = ys.take k ∧ ∃ j, w.drewN j = wr) (fun x5 _ => n - (intOf x5).toNat)
    case atStart => exact ⟨0, rfl, Nat.zero_le _, by simp, 0, rfl⟩
    case round =>
      obtain ⟨k, rfl, hk, ht, j, rfl⟩ := hrel
      have HTK := Lib.hid ht
      clear ht
      by_cases hkn : k < n
      · have hd1 : decide (k < n) = true := by simpa using hkn
        obtain ⟨ad, rfl, hkx, hcx⟩ := Src.at_ HX.out k hkn
        obtain ⟨bd, rfl, hky, hcy⟩ := Src.at_ HY.out k hkn
        obtain ⟨a, ha⟩ : ∃ a, xs[k].toNat = a := ⟨_, rfl⟩
        obtain ⟨b, hb⟩ : ∃ b, ys[k].toNat = b := ⟨_, rfl⟩
        rw [show bv xs[k] = .int .u8 a by rw [← ha]; rfl] at hcx
        rw [show bv ys[k] = .int .u8 b by rw [← hb]; rfl] at hcy
        have HAB : Hid (xs[k] = ys[k] ↔ a = b) := by
          show _ ↔ _
          rw [← ha, ← hb]
          exact ⟨fun h => by rw [h], fun h => UInt8.toNat_inj.1 h⟩
        clear ha hb
        have hcx' : (w.drewN j).cell? (ad.add k) = some (.int .u8 a) := hcx
        have hcy' : (w.drewN j).cell? (bd.add k) = some (.int .u8 b) := hcy
        by_cases hab : a = b
        · have hd2 : ((a : Int) != (b : Int)) = false := by simp [hab]
          go_wp2_with fail
          go_quiet (fail)
          go_wp2_with fail
          go_roundw
          case rel =>
            refine ⟨k + 1, by simp, by omega, ?_, _, rfl⟩
            rw [List.take_add_one, List.take_add_one, HTK.out, List.getElem?_eq_getElem hkx, List.getElem?_eq_getElem hky, HAB.out.2 hab]
          case measure => simp [intOf]; omega
        · have hd2 : ((a : Int) != (b : Int)) = true := by simp; omega
          go_wp2_with fail
          go_quiet (fail)
          go_wp2_with fail
          go_ret
          have hne : xs ≠ ys := fun h => hab (HAB.out.1 (by subst h; rfl))
          exact ⟨by rw [decide_eq_false hne]; rfl, j + nq, by simp⟩
      · have hd1 : decide (k < n) = false := by simpa using hkn
        go_wp2_with fail
        go_ret
        have hkk : k = n := by omega
        have h := HTK.out
        rw [hkk, List.take_of_length_le (by rw [HXL.out]; exact Nat.le_refl _), List.take_of_length_le (by rw [HYL.out]; exact Nat.le_refl _)] at h
        exact ⟨by rw [decide_eq_true h]; rfl, _, rfl⟩
  · have hd : ((n : Int) != (m : Int)) = true := by simp; omega
    have hne : xs ≠ ys := fun h => hnm (by rw [← hxl, ← hyl, h])
    clear hx hy hxl hyl
    go_enter Try.func20, Try.ntmps20
    go_wp2
    go_ret
    exact ⟨by rw [decide_eq_false hne]; rfl, 0, rfl⟩
end Go.Proofs.Ytkpgdonpmfebaaa.Bt
