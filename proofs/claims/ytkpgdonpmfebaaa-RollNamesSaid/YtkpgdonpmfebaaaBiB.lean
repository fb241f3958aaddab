/- The law's bound: beyond. -/
import Derived.Test.YtkpgdonpmfebaaaBiO
namespace Go.Proofs.Ytkpgdonpmfebaaa.Bt
open Go.RowKit Go.Hp
attribute [local go_sem] min2_lean min_two max2_lean max_two
set_option linter.unusedSimpArgs false
set_option linter.unusedVariables false
set_option maxRecDepth 100000
def tot (its : List ItA) : Nat := (its.map fun x => 1 + x.s.size).sum
theorem tot_take (its : List ItA) (i : Nat) (h : i < its.length) : tot (its.take (i + 1)) = tot (its.take i) + (1 + its[i].s.size) := by
  unfold tot
  rw [List.take_add_one, List.getElem?_eq_getElem h, List.map_append, List.sum_append]
  simp only [Option.toList_some, List.map_cons, List.map_nil, List.sum_cons, List.sum_nil, Nat.add_zero]
/-- What 'beyond' says: no means that all fits. -/
def BeyondPost (its : List ItA) (w : World) (r : Ending) (w' : World) : Prop := ∃ b, r = .returned (.bool b) ∧ (b = false → tot its < 2147483648) ∧ w = w'
theorem beyond_any (A : Option Addr) (its : List ItA) (cap : Nat) (w : World) (hi : ItemsAt w A its) (hl : its.length * 40 ≤ 140737488351232) :
    Calls Try.prog 14 #[.slice A its.length cap] w (BeyondPost its w) := by
  obtain ⟨L, hL⟩ : ∃ L, its.length = L := ⟨_, rfl⟩
  have HI := Lib.hid hi
  have HL := Lib.hid hL
  rw [hL] at hl ⊢
  clear hi hL
  have hl2 : L ≤ 3518437208780 := by omega
  clear hl
  go_enter Try.func14, Try.ntmps14
  go_wp2_with fail
  go_loopw [3, 4] (fun x3 x4 wr => ∃ (i : Nat) (n : Int), x4 = .int .i64 i ∧ x3 = .int .i64 n ∧ i ≤ L ∧ n = tot (its.take i) ∧ n < 2147483648 ∧ w = wr) (fun _ x4 _ => L - (intOf x4).toNat)
  case atStart => exact ⟨0, 0, rfl, rfl, Nat.zero_le _, rfl, by omega, rfl⟩
  case round =>
    obtain ⟨i, n, rfl, rfl, hil, hn, hnb, rfl⟩ := hrel
    have hn0 : 0 ≤ n := by omega
    have HN := Lib.hid hn
    clear hn
    by_cases h : i < L
    · have hd : decide (i < L) = true := by simpa using h
      obtain ⟨hf, b, off, rfl, hb, hc⟩ := HI.out i (by rw [HL.out]; exact h)
      have c3 := hc 3 _ rfl
      have HT := Lib.hid (tot_take its i (by rw [HL.out]; exact h))
      obtain ⟨z, hz⟩ : ∃ z, (its[i]'(by rw [HL.out]; exact h)).s = z := ⟨_, rfl⟩
      have hzs : z.size ≤ 140737488351232 := by rw [← hz]; exact hf.2.2
      rw [hz] at c3 HT
      clear hf hc hz
      obtain ⟨m, hm⟩ : ∃ m : Int, m = n + 1 := ⟨_, rfl⟩
      have hw1 : IntKind.i64.wrap (n + 1) = m := by rw [IntWalk.i64_in _ (by omega)]; omega
      have HM := Lib.hid hm
      have hmb : m ≤ 2147483648 := by omega
      have hm0 : 0 ≤ m := by omega
      clear hm
      have hw2 : IntKind.i64.wrap (2147483647 - m) = 2147483647 - m := IntWalk.i64_in _ (by omega)
      by_cases hs : 2147483647 - m < (z.size : Int) ∨ 2147483647 ≤ m
      · have hs2 : (decide (2147483647 - m < (z.size : Int)) = true ∧ True) ∨ (decide (2147483647 - m < (z.size : Int)) = false ∧ decide (2147483647 ≤ m) = true) := by
          by_cases h3 : 2147483647 - m < (z.size : Int)
          · left; exact ⟨by simpa using h3, trivial⟩
          · right; exact ⟨by simpa using h3, by simp; omega⟩
        rcases hs2 with ⟨q1, q2⟩ | ⟨q1, q2⟩
        · have q3 : ¬ ((z.size : Int) ≤ 2147483647 - m) := by simp at q1; omega
          clear hs hmb hnb hzs hl2 hil
          go_wp2_with fail
          go_ret
          exact ⟨true, rfl, fun h => by simp at h, rfl⟩
        · have q3 : ((z.size : Int) ≤ 2147483647 - m) := by simp at q1; omega
          clear hs hmb hnb hzs hl2 hil
          go_wp2_with fail
          go_ret
          exact ⟨true, rfl, fun h => by simp at h, rfl⟩
      · obtain ⟨p, hp⟩ : ∃ p : Int, p = m + z.size := ⟨_, rfl⟩
        have hw3 : IntKind.i64.wrap (m + (z.size : Int)) = p := by rw [IntWalk.i64_in _ (by omega)]; omega
        have q1 : decide (2147483647 - m < (z.size : Int)) = false := by simp; omega
        have q2 : decide (2147483647 ≤ m) = false := by simp; omega
        have q3 : ((z.size : Int) ≤ 2147483647 - m) := by omega
        have HP := Lib.hid hp
        have hpb : p < 2147483648 := by omega
        have HPB := Lib.hid hpb
        have HILb := Lib.hid hil
        have hi2 : i ≤ 3518437208780 := by omega
        clear hp hs hmb hnb hzs hl2 hpb hil
        go_wp2_with fail
        go_roundw
        case rel => exact ⟨i + 1, p, by simp, rfl, by have := HILb.out; omega, by rw [HT.out, HP.out, HM.out, HN.out]; omega, HPB.out, trivial⟩
        case measure => simp [intOf]; omega
    · have hd : decide (i < L) = false := by simpa using h
      go_wp2_with fail
      go_ret
      refine ⟨false, rfl, fun _ => ?_, rfl⟩
      have := HN.out
      rw [List.take_of_length_le (by rw [HL.out]; omega)] at this
      omega
end Go.Proofs.Ytkpgdonpmfebaaa.Bt
