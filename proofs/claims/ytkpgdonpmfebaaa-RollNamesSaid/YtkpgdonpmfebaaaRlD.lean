/- Package roll: a row copied; which rows may be. -/
import Derived.Test.YtkpgdonpmfebaaaRlC
namespace Go.Proofs.Ytkpgdonpmfebaaa.Rl
open Go.RowKit Go.Hp
attribute [local go_sem] min2_lean min_two max2_lean max_two
set_option linter.unusedSimpArgs false
set_option linter.unusedVariables false
set_option maxRecDepth 100000
theorem Blk.five {w : World} {b : Nat} {a0 a1 a2 a3 a4 : Value} {T : TypeId} (h : Blk w b #[a0, a1, a2, a3, a4] T) :
    (w.cell? ⟨b, 0, none⟩ = some a0 ∧ w.cell? ⟨b, 1, none⟩ = some a1 ∧ w.cell? ⟨b, 2, none⟩ = some a2 ∧ w.cell? ⟨b, 3, none⟩ = some a3 ∧ w.cell? ⟨b, 4, none⟩ = some a4) ∧
    w.frozen? ⟨b, 0, none⟩ = false ∧ w.frozen? ⟨b, 1, none⟩ = false ∧ w.frozen? ⟨b, 2, none⟩ = false ∧ w.frozen? ⟨b, 3, none⟩ = false ∧ w.frozen? ⟨b, 4, none⟩ = false ∧ b < w.heap.size :=
  ⟨⟨h.cell 0, h.cell 1, h.cell 2, h.cell 3, h.cell 4⟩, h.frozen 0, h.frozen 1, h.frozen 2, h.frozen 3, h.frozen 4, h.lt⟩
theorem copied_any (r : RwA) (A : Option Addr) (n c : Nat) (w : World) (hx : Src w (.slice A n c) n 1 (r.its.map Value.string)) (hn : n * 16 ≤ 140737488355328) :
    Calls Try.prog 85 #[.agg (r.cells (.slice A n c))] w fun e w' => ∃ A' c', e = .returned (.agg (r.cells (.slice A' n c'))) ∧ Turns w w' Hp.Own.emp (its A' n c' r.its) := by
  obtain ⟨num, at_, code, k, xs⟩ := r
  simp only [] at hx
  have HCL := Lib.hid (fun W (hc : Chg (fun _ => False) w W) => clone_any A n c xs W (Src.keep0 hx hc) hn)
  show Calls Try.prog 85 #[.agg #[.int .i64 num, .int .i64 at_, .int .i64 code, .int .i64 k, .slice A n c]] w _
  clear hx
  go_enter Try.func85, Try.ntmps85
  have HC2 := Lib.hid (((Chg.refl (fun _ => False) w).alloc (.cells #[.int .i64 num, .int .i64 at_, .int .i64 code, .int .i64 k, .slice A n c] 75)).alloc (.cells #[.int .i64 0, .int .i64 0, .int .i64 0, .int .i64 0, .slice none 0 0] 75))
  have hb0 := (Blk.new w #[.int .i64 num, .int .i64 at_, .int .i64 code, .int .i64 k, .slice A n c] 75).chg ((Chg.refl (fun _ => False) _).alloc (.cells #[.int .i64 0, .int .i64 0, .int .i64 0, .int .i64 0, .slice none 0 0] 75)) (fun h => h)
  have hb1 := Blk.new (w.alloc (.cells #[.int .i64 num, .int .i64 at_, .int .i64 code, .int .i64 k, .slice A n c] 75)) #[.int .i64 0, .int .i64 0, .int .i64 0, .int .i64 0, .slice none 0 0] 75
  rw [show (w.alloc (.cells #[.int .i64 num, .int .i64 at_, .int .i64 code, .int .i64 k, .slice A n c] 75)).heap.size = w.heap.size + 1 by simp] at hb1
  have HB0 := Lib.hid hb0
  have HB1 := Lib.hid hb1
  clear hb0 hb1
  go_wp2_with (go_at_call 101; (with_reducible refine (HCL.out _ HC2.out).mono ?_); rintro e w1 ⟨A', c', rfl, ht1⟩; have HT1 := Lib.hid ht1; obtain ⟨⟨p0, p1, p2, p3, p4⟩, -, -, -, -, g4, hl0⟩ := Blk.five (HB0.out.chg ht1.chg (fun h => h)); obtain ⟨⟨q0, q1, q2, q3, q4⟩, f0, f1, f2, f3, f4, hl1⟩ := Blk.five (HB1.out.chg ht1.chg (fun h => h)); clear ht1)
  refine bodyPost_ret (v := .agg #[.int .i64 num, .int .i64 at_, .int .i64 code, .int .i64 k, .slice A' n c']) (by simp [results, Try.results85, go_sem, *]) rfl ⟨A', c', rfl, ?_⟩
  refine Turns.boxes (O := Hp.Own.emp) trivial HC2.out HT1.out ?_
  rw [show ((w.alloc (.cells #[.int .i64 num, .int .i64 at_, .int .i64 code, .int .i64 k, .slice A n c] 75)).alloc (.cells #[.int .i64 0, .int .i64 0, .int .i64 0, .int .i64 0, .slice none 0 0] 75)).heap.size = w.heap.size + 2 by simp]
  (repeat (first | (with_reducible exact Chg.refl _ _) | (with_reducible refine Chg.set ?_ (Or.inr ⟨by first | (simp; done) | (simp; omega), by first | (simp; done) | (simp; omega)⟩) _) | (with_reducible refine Chg.set ?_ (Or.inl (by simp)) _) | (with_reducible refine Chg.alloc ?_ _) | (with_reducible refine Chg.drew ?_) | (with_reducible refine Chg.drewN ?_ _)))
theorem there_any (k : Int) (w : World) : Calls Try.prog 84 #[.int .i64 k] w fun e w' => e = .returned (.bool (decide (0 ≤ k ∧ k < 8))) ∧ w = w' := by
  have e : (decide (0 ≤ k ∧ k < 8) : Bool) = (decide (0 ≤ k) && decide (k < 8)) := by simp
  rw [e]
  by_cases h1 : 0 ≤ k
  · have e1 : decide (0 ≤ k) = true := by simpa using h1
    rw [e1]
    clear e h1
    go_enter Try.func84, Try.ntmps84
    go_wp2_with fail
    go_ret
    exact ⟨by simp, rfl⟩
  · have e1 : decide (0 ≤ k) = false := by simpa using h1
    rw [e1]
    clear e h1
    go_enter Try.func84, Try.ntmps84
    go_wp2_with fail
    go_ret
    exact ⟨by simp, rfl⟩
/-- Which rows may be. -/
def may (r : RwA) : Bool := decide (1 ≤ r.num) && decide (r.num ≤ 1099511627776) && decide (1 ≤ r.at_) && decide (r.at_ ≤ 1099511627776) && decide (chk r.code r.n r.its = 0)
theorem may_any (r : RwA) (A : Option Addr) (n c : Nat) (w : World) (hx : Src w (.slice A n c) n 1 (r.its.map Value.string)) :
    Calls Try.prog 86 #[.agg (r.cells (.slice A n c))] w fun e w' => e = .returned (.bool (may r)) ∧ Chg (fun _ => False) w w' := by
  obtain ⟨num, at_, code, k, xs⟩ := r
  simp only [] at hx
  have HCK := Lib.hid (fun W (hc : Chg (fun _ => False) w W) => check_any code k A n c xs W (Src.keep0 hx hc))
  unfold may
  simp only []
  generalize chk code k xs = q at *
  show Calls Try.prog 86 #[.agg #[.int .i64 num, .int .i64 at_, .int .i64 code, .int .i64 k, .slice A n c]] w _
  clear hx
  have go : ∀ (b1 b2 b3 b4 : Bool), decide (1 ≤ num) = b1 → decide (num ≤ 1099511627776) = b2 → decide (1 ≤ at_) = b3 → decide (at_ ≤ 1099511627776) = b4 → Calls Try.prog 86 #[.agg #[.int .i64 num, .int .i64 at_, .int .i64 code, .int .i64 k, .slice A n c]] w fun e w' => e = .returned (.bool (b1 && b2 && b3 && b4 && decide (q = 0))) ∧ Chg (fun _ => False) w w' := by
    intro b1 b2 b3 b4 h1 h2 h3 h4
    have HC := Lib.hid ((Chg.refl (fun _ => False) w).alloc (.cells #[.int .i64 num, .int .i64 at_, .int .i64 code, .int .i64 k, .slice A n c] 75))
    cases b1
    · go_enter Try.func86, Try.ntmps86
      go_wp2_with fail
      go_ret
      exact ⟨by simp, HC.out⟩
    cases b2
    · go_enter Try.func86, Try.ntmps86
      go_wp2_with fail
      go_ret
      exact ⟨by simp, HC.out⟩
    cases b3
    · go_enter Try.func86, Try.ntmps86
      go_wp2_with fail
      go_ret
      exact ⟨by simp, HC.out⟩
    cases b4
    · go_enter Try.func86, Try.ntmps86
      go_wp2_with fail
      go_ret
      exact ⟨by simp, HC.out⟩
    · go_enter Try.func86, Try.ntmps86
      go_wp2_with (go_at_call 102; (with_reducible refine (HCK.out _ HC.out).mono ?_); rintro e w1 ⟨rfl, hc1⟩; have HC1 := Lib.hid (HC.out.trans hc1); clear hc1)
      go_ret
      refine ⟨?_, HC1.out⟩
      by_cases hq : q = 0
      · simp [hq]
      · have : (q == 0) = false := by simpa using hq
        simp [hq, this]
  exact go _ _ _ _ rfl rfl rfl rfl
end Go.Proofs.Ytkpgdonpmfebaaa.Rl
