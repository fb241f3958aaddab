/- shown, and the names. -/
import Derived.Test.YtkpgdonpmfebaaaBrY
namespace Go.Proofs.Ytkpgdonpmfebaaa.Bt
open Go.RowKit Go.Hp
attribute [local go_sem] min2_lean min_two max2_lean max_two
set_option linter.unusedSimpArgs false
set_option linter.unusedVariables false
set_option maxRecDepth 100000

theorem vi300 : vi 300 = [172, 2] := by rw [vi_ge (by omega), vi_lt (by omega)]; rfl
theorem vi127 : vi 127 = [127] := by rw [vi_lt (by omega)]; rfl
theorem vi2 : vi 2 = [2] := by rw [vi_lt (by omega)]; rfl
theorem zz64 : zz (-64) = 127 := by decide
def ab : ByteArray := ⟨#[97, 98]⟩
theorem shown_bytes : ((([] : List UInt8) ++ vi 300) ++ vi (zz (-64))) ++ vi ab.size ++ ab.data.toList = [172, 2, 127, 2, 97, 98] := by
  rw [vi300, zz64, vi127, show ab.size = 2 from rfl, vi2]; rfl
def b3 : List UInt8 := [172, 2, 127]
theorem num300 : numOf 300 13 b3 0 = (300, 2, 0) := by decide
theorem gr64 : gr 10 1 b3 10 0 0 2 = (127, 3, 0) := by decide
theorem uz127 : uz 127 = -64 := by decide
theorem Turns.end_ {w w' : World} {O : Own} (h : Turns w w' Own.emp O) : Chg (fun _ => False) w w' := h.chg.mono fun _ _ hf => hf
set_option maxHeartbeats 2000000 in
theorem shown_any (w : World) : Calls Try.prog 13 #[] w fun r w' => r = .returned (.bool true) ∧ Chg (fun _ => False) w w' := by
  go_enter Try.func13, Try.ntmps13
  go_wp2_with (first
    | (go_at_call 15; refine (newW_any _).mono ?_; rintro r w1 ⟨rfl, ht1⟩; have HT1 := Lib.hid ht1; clear ht1)
    | (go_at_call 59; refine (num_ok (WrS.mk w.heap.size (.slice none 0 0) [] false) 300 _ HT1.out.now (by omega) rfl (by simp)).mono ?_; rintro r w2 ⟨rfl, v2, ht2⟩; have HT2 := Lib.hid (HT1.out.trans ht2); clear ht2)
    | (go_at_call 60; refine (signed_ok (WrS.mk w.heap.size v2 ([] ++ vi 300) false) (-64) _ HT2.out.now (by omega) (by omega) rfl (by rw [vi300]; simp)).mono ?_; rintro r w3 ⟨rfl, v3, ht3⟩; have HT3 := Lib.hid (HT2.out.trans ht3); clear ht3)
    | (go_at_call 61; refine (text_ok (WrS.mk w.heap.size v3 (([] ++ vi 300) ++ vi (zz (-64))) false) ab _ HT3.out.now rfl (by rw [vi300, zz64, vi127]; simp [ab, ByteArray.size])).mono ?_; rintro r w4 ⟨rfl, v4, ht4⟩; have HT4 := Lib.hid (HT3.out.trans ht4); clear ht4)
    | (go_at_call 18; refine (done_ok (WrS.mk w.heap.size v4 ((([] ++ vi 300) ++ vi (zz (-64))) ++ vi ab.size ++ ab.data.toList) false) _ HT4.out.now rfl (by rw [shown_bytes]; simp)).mono ?_; rintro r w5 ⟨o, rfl, ht5, hob⟩; rw [shown_bytes] at ht5; have HT5 := Lib.hid ht5; have HC5 := Lib.hid ((Turns.end_ HT4.out).trans (Turns.end_ ht5)); obtain ⟨go, co, hvo, _, hlo⟩ := row_form ht5.now (by simp); clear ht5 hob; subst hvo)
    | (go_at_call 25; refine (newR_any (some ⟨w5.heap.size, 0, none⟩) 3 b3 _ ⟨rfl, Or.inr ⟨_, _, rfl, fun j u hu => World.news_of_block (heap_alloc_new w5 _) j u hu⟩⟩ (by simp [b3])).mono ?_; rintro r w6 ⟨g, rfl, ht6⟩; have HT6 := Lib.hid ht6; have HC6 := Lib.hid ((HC5.out.alloc _).trans (Turns.end_ ht6)); have HR6 := Lib.hid (Own.chg HT5.out.now (((Chg.refl (fun _ => False) w5).alloc (.cells #[.int .u8 172, .int .u8 2, .int .u8 127] 5)).trans (Turns.end_ ht6)) (fun _ _ h => h)); clear ht6; have o0 := World.ownsRow.cells (g := go) HR6.out rfl 0 _ rfl; have o1 := World.ownsRow.cells (g := go) HR6.out rfl 1 _ rfl; have o2 := World.ownsRow.cells (g := go) HR6.out rfl 2 _ rfl; have o3 := World.ownsRow.cells (g := go) HR6.out rfl 3 _ rfl; have o5 := World.ownsRow.cells (g := go) HR6.out rfl 5 _ rfl; simp [Addr.add, bv] at o0 o1 o2 o3 o5)
    | (go_at_call 38; refine (rnum_ok (RdS.mk g (.slice (some ⟨(w5.alloc (.cells #[.int .u8 172, .int .u8 2, .int .u8 127] 5)).heap.size, 0, none⟩) b3.length b3.length) b3 0 0) 300 _ HT6.out.now rfl (Nat.zero_le _) (by simp [b3])).mono ?_; rintro r w7 ⟨rfl, ht7⟩; rw [num300] at ht7 ⊢; have HT7 := Lib.hid ht7; clear ht7)
    | (go_at_call 62; refine (rsigned_ok (RdS.mk g (.slice (some ⟨(w5.alloc (.cells #[.int .u8 172, .int .u8 2, .int .u8 127] 5)).heap.size, 0, none⟩) b3.length b3.length) b3 2 0) _ HT7.out.now rfl (by simp [b3]) (by simp [b3])).mono ?_; rintro r w8 ⟨rfl, ht8⟩; rw [gr64] at ht8 ⊢; have HT8 := Lib.hid ht8; clear ht8)
    | (go_at_call 35; refine (close_any (RdS.mk g (.slice (some ⟨(w5.alloc (.cells #[.int .u8 172, .int .u8 2, .int .u8 127] 5)).heap.size, 0, none⟩) b3.length b3.length) b3 3 0) _ HT8.out.now).mono ?_; rintro r w9 ⟨rfl, ht9⟩; have HT9 := Lib.hid ht9; clear ht9))
  go_ret
  have h9 := ((HT6.out.trans HT7.out).trans HT8.out).trans HT9.out
  exact ⟨by simp [RdS.closed, b3], (HC5.out.alloc _).trans (Turns.end_ h9)⟩
theorem names_true (w : World) : Calls Try.prog 4 #[] w fun e w' => e = .returned (.bool true) ∧ Below w.heap.size w w' := by
  go_enter Try.func4, Try.ntmps4
  go_wp2_with (go_at_call 13; refine (shown_any _).mono ?_; rintro r w1 ⟨rfl, hc⟩; have HC := Lib.hid hc; clear hc)
  go_ret
  exact ⟨rfl, HC.out.below (fun _ h => h.elim) (Nat.le_refl _)⟩
end Go.Proofs.Ytkpgdonpmfebaaa.Bt
