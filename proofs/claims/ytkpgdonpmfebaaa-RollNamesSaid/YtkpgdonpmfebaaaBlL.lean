/- The law's helpers: lent. -/
import Derived.Test.YtkpgdonpmfebaaaBlS
import Derived.Test.YtkpgdonpmfebaaaAppH
namespace Go.Proofs.Ytkpgdonpmfebaaa.Bt
open Go.RowKit Go.Hp
attribute [local go_sem] min2_lean min_two max2_lean max_two
set_option linter.unusedSimpArgs false
set_option linter.unusedVariables false
set_option maxRecDepth 100000

/-- A list that was lent: eight bytes behind it, i of them laid down. -/
def lentC (xs : List UInt8) (i : Nat) : List Value := xs.map bv ++ (List.replicate i (.int .u8 165) ++ List.replicate (8 - i) (.int .u8 0))
theorem lentC_set (xs : List UInt8) (i : Nat) (hi : i < 8) : (lentC xs i).set (xs.length + i) (.int .u8 165) = lentC xs (i + 1) := by
  unfold lentC
  rw [List.set_append_right _ _ (by simp), List.length_map, Nat.add_sub_cancel_left, List.set_append_right _ _ (by simp), List.length_replicate, Nat.sub_self]
  rw [show 8 - i = (8 - (i + 1)) + 1 by omega, List.replicate_succ, List.set_cons_zero, List.replicate_succ']
  simp
theorem row_there {w : World} {g n c : Nat} {E : TypeId} {xs : List Value} (h : w.ownsRow 0 E 1 (.slice (some ⟨g, 0, none⟩) n c) n xs) (j : Nat) (hj : j < n) :
    ∃ u, xs[j]? = some u ∧ w.cell? ⟨g, j, none⟩ = some u ∧ w.frozen? ⟨g, j, none⟩ = false := by
  have hl : j < xs.length := by have := h.1; omega
  refine ⟨xs[j], List.getElem?_eq_getElem hl, ?_, ?_⟩
  · have := World.ownsRow.cells (g := g) h rfl j xs[j] (List.getElem?_eq_getElem hl)
    have ha : (⟨g, 0, none⟩ : Addr).add j = ⟨g, j, none⟩ := by unfold Addr.add; split <;> simp_all
    rwa [ha] at this
  · rcases h.2 with ⟨_, h0⟩ | ⟨g', cap, cur, hv, _, hg, _⟩
    · omega
    · have : g = g' := by have := (Value.slice.inj hv).1; simpa using this
      subst this
      simp [World.frozen?, hg]
theorem lent_any (A : Option Addr) (n c : Nat) (xs : List UInt8) (w : World) (hx : Src w (.slice A n c) n 1 (xs.map bv)) (hl : n ≤ 140737488351232) :
    Calls Try.prog 24 #[.slice A n c] w fun r w' => r = .returned (.slice (some ⟨w.heap.size, 0, none⟩) (n + 8) (n + 8)) ∧ Turns w w' Own.emp (Own.row 5 1 (.slice (some ⟨w.heap.size, 0, none⟩) (n + 8) (n + 8)) (n + 8) (lentC xs 8)) := by
  have hxl : xs.length = n := by have := hx.1; simpa using this
  obtain ⟨i0, hi0, hz0, hz1, hz2⟩ := info_parts Try.info5
  have HX := Lib.hid hx
  have HXL := Lib.hid hxl
  clear hx hxl
  obtain ⟨m, hm⟩ : ∃ m, m = n + 8 := ⟨_, rfl⟩
  have HM := Lib.hid hm
  rw [← hm]
  have hw : IntKind.i64.wrap ((n : Int) + 8) = (m : Int) := by rw [IntWalk.i64_in _ (by omega)]; omega
  have hmb : m ≤ 140737488355328 := by omega
  have hnm : n < m := by omega
  clear hm
  go_enter Try.func24, Try.ntmps24
  go_wp2_with (first
    | (at_make; refine wpList_make_full _ rfl _ _ 38 rfl 0 5 i0 (.int .u8 0) 1 Try.underlying38 hi0 hz0 hz1 .i64 .i64 m m m rfl rfl rfl rfl (by rw [hz2]; omega) (by simp only [maxLen]; omega) (Nat.zero_le _) ?_; intro w1 ho1 hg1; have HM1 := Lib.hid (Turns.made ho1 hg1); have HO1 := Lib.hid ho1; clear ho1 hg1)
    | (refine wpList_copy_head _ rfl (.tmp 9) (.tmp 10) 38 38 rfl 5 Try.underlying38 (by rw [hi0]; simp [hz1]) _ 0 n 8 _ (by omega) rfl (by rw [← HM.out]; exact HO1.out) _ (xs.map bv) rfl (Src.keep HX.out (HM1.out.chg.mono (fun _ _ h => h))) (by simp [bv, Value.oneCell']) ?_; intro w2 ho2 hg2; rw [← HM.out] at ho2; have HT2 := Lib.hid (HM1.out.trans (Turns.row ho2 hg2 (Or.inl rfl))); clear ho2 hg2))
  have HT3 : Hid (Turns w w2 Own.emp (Own.row 5 1 (.slice (some ⟨w.heap.size, 0, none⟩) m m) m (lentC xs 0))) := by
    have h := HT2.out
    have e : xs.map bv ++ (madeCells (Value.int IntKind.u8 0).cells (m * 1)).toList.drop n = lentC xs 0 := by
      rw [show (Value.int IntKind.u8 0).cells = #[Value.int IntKind.u8 0] from rfl, toList_madeCells_one, HM.out]
      unfold lentC
      rw [List.drop_replicate, show (n + 8) * 1 - n = 8 by omega]
      simp
    rw [e] at h
    exact h
  clear HT2 HO1 HM1
  go_loopw [4] (fun x4 wr => ∃ i : Nat, x4 = .int .i64 ((n + i : Nat) : Int) ∧ i ≤ 8 ∧ Turns w wr Own.emp (Own.row 5 1 (.slice (some ⟨w.heap.size, 0, none⟩) m m) m (lentC xs i))) (fun x4 _ => n + 8 - (intOf x4).toNat)
  case atStart => exact ⟨0, rfl, by omega, HT3.out⟩
  case round =>
    obtain ⟨i, rfl, hi, ht⟩ := hrel
    have HT := Lib.hid ht
    clear ht
    obtain ⟨j, hj⟩ : ∃ j, j = n + i := ⟨_, rfl⟩
    have HJ := Lib.hid hj
    rw [← hj]
    clear hj
    by_cases h8 : i < 8
    · have hjm : j < m := by have := HM.out; have := HJ.out; omega
      have hd : decide (j < m) = true := by simpa using hjm
      obtain ⟨u, _, hc, hf⟩ := row_there HT.out.now j hjm
      go_wp2_with fail
      go_roundw
      case rel =>
        refine ⟨i + 1, by have := HJ.out; rw [this]; simp; omega, by omega, ?_⟩
        have h := HT.out.trans (Turns.row_set HT.out.now j (.int .u8 165))
        have e := lentC_set xs i h8
        rw [HXL.out, ← HJ.out] at e
        rw [e] at h
        exact h
      case measure => have := HJ.out; have := HM.out; simp [intOf]; omega
    · have hjm : j = m := by have := HM.out; have := HJ.out; omega
      have hd : decide (j < m) = false := by simp; omega
      go_wp2_with fail
      go_ret
      have h88 : i = 8 := by omega
      subst h88
      exact ⟨rfl, HT.out⟩
end Go.Proofs.Ytkpgdonpmfebaaa.Bt
