/- Package roll: the document's examples; RollNames. -/
import Derived.Test.YtkpgdonpmfebaaaRlH
namespace Go.Proofs.Ytkpgdonpmfebaaa.Rl
open Go.Proofs.Ytkpgdonpmfebaaa.Bt
open Go.RowKit Go.Hp
attribute [local go_sem] min2_lean min_two max2_lean max_two
set_option linter.unusedSimpArgs false
set_option linter.unusedVariables false
set_option maxRecDepth 100000
theorem nil_src (w : World) : Src w (.slice none 0 0) 0 1 (([] : List ByteArray).map Value.string) := ⟨rfl, Or.inl ⟨0, rfl, rfl⟩⟩
theorem new_ok (g : Nat) : (RlS.new g).ok := fun k hk => Or.inr ⟨rfl, rfl⟩
theorem put_ok {s : RlS} (h : s.ok) {k : Nat} {r : RwA} {v : Value} (hm : may r = true) : (s.put k r v).ok := fun j hj => by
  by_cases e : j = k
  · left; exact ⟨by simp [RlS.put, e], by simp [RlS.put, e, hm]⟩
  · have h1 := h j hj
    simpa [RlS.put, e] using h1
def xB : RwA := ⟨2, 5, 0, 1, []⟩
def s1 (g : Nat) (v : Value) : RlS := (RlS.new g).put 3 xB v
theorem may_B : may xB = true := by simp [may, chk, xB]
theorem s1_ok (g : Nat) (v : Value) : (s1 g v).ok := put_ok (new_ok g) may_B
theorem x_set (s : RlS) (k : Int) (r : RwA) (s' : Value → RlS) (z : Int) (hz : s.setE k r = z) (hp : ∀ v, (if z = 0 then s.put k.toNat r v else s) = s' v) (hok : s.ok) (hi : r.its = []) (w : World) (hs : s.own.holds w) :
    Calls Try.prog 42 #[.pointer (some ⟨s.g, 0, none⟩), .int .i64 k, .agg (r.cells (.slice none 0 0))] w fun e w' => e = .returned (.int .i64 z) ∧ ∃ v, Turns w w' s.own (s' v).own := by
  refine (set_any s k r none 0 0 w hs hok (by rw [hi]; exact nil_src w) (by decide)).mono fun e w' ⟨he, v, ht⟩ => ⟨by rw [he, hz], v, ?_⟩
  rw [hz, hp] at ht
  exact ht
theorem x_seta (g : Nat) (w : World) (hs : (RlS.new g).own.holds w) :
    Calls Try.prog 42 #[.pointer (some ⟨g, 0, none⟩), .int .i64 8, .agg #[.int .i64 1, .int .i64 1, .int .i64 0, .int .i64 0, .slice none 0 0]] w fun e w' => e = .returned (.int .i64 70) ∧ Turns w w' (RlS.new g).own (RlS.new g).own :=
  (x_set (RlS.new g) 8 ⟨1, 1, 0, 0, []⟩ (fun _ => RlS.new g) 70 (by simp [RlS.setE]) (fun v => by simp) (new_ok g) rfl w hs).mono fun e w' ⟨he, v, ht⟩ => ⟨he, ht⟩
theorem x_setb (g : Nat) (w : World) (hs : (RlS.new g).own.holds w) :
    Calls Try.prog 42 #[.pointer (some ⟨g, 0, none⟩), .int .i64 3, .agg #[.int .i64 2, .int .i64 5, .int .i64 0, .int .i64 1, .slice none 0 0]] w fun e w' => e = .returned (.int .i64 0) ∧ ∃ v, Turns w w' (RlS.new g).own (s1 g v).own :=
  x_set (RlS.new g) 3 xB (fun v => s1 g v) 0 (by have := may_B; simp [RlS.setE, RlS.new, this]) (fun v => by simp [s1]) (new_ok g) rfl w hs
theorem x_setc (g : Nat) (v : Value) (w : World) (hs : (s1 g v).own.holds w) :
    Calls Try.prog 42 #[.pointer (some ⟨g, 0, none⟩), .int .i64 3, .agg #[.int .i64 2, .int .i64 6, .int .i64 0, .int .i64 0, .slice none 0 0]] w fun e w' => e = .returned (.int .i64 71) ∧ Turns w w' (s1 g v).own (s1 g v).own :=
  (x_set (s1 g v) 3 ⟨2, 6, 0, 0, []⟩ (fun _ => s1 g v) 71 (by have h : may ⟨2, 6, 0, 0, []⟩ = true := by simp [may, chk]
                                                              simp [RlS.setE, s1, RlS.put, h, xB]) (fun v => by simp) (s1_ok g v) rfl w hs).mono fun e w' ⟨he, v, ht⟩ => ⟨he, ht⟩
theorem x_has (g : Nat) (v : Value) : (s1 g v).has 3 = true ∧ (s1 g v).last 3 = xB := by
  have h : (s1 g v).has 3 = true := by simp [RlS.has, s1, RlS.put]
  exact ⟨h, by unfold RlS.last; rw [if_pos h]; simp [s1, RlS.put]⟩
theorem x_last (g : Nat) (v : Value) (w : World) (hs : (s1 g v).own.holds w) :
    Calls Try.prog 41 #[.pointer (some ⟨g, 0, none⟩), .int .i64 3] w fun e w' => ∃ A c, e = .returned (.tuple #[.agg #[.int .i64 2, .int .i64 5, .int .i64 0, .int .i64 1, .slice A 0 c], .bool true]) ∧ Turns w w' Hp.Own.emp (its A 0 c []) := by
  refine (last_any (s1 g v) 3 w hs (s1_ok g v)).mono fun e w' ⟨A, c, he, ht⟩ => ?_
  rw [(x_has g v).1, (x_has g v).2] at he
  rw [(x_has g v).2] at ht
  exact ⟨A, c, he, ht⟩
theorem vi5 (n : Nat) (h : n < 128) : vi n = [UInt8.ofNat n] := by rw [vi_lt h]
theorem x_rowB (g : Nat) (v : Value) : (s1 g v).bytes 3 = [2, 5, 0, 1, 0] := by
  unfold RlS.bytes
  rw [(x_has g v).1, (x_has g v).2]
  simp [rowB, xB, eR, eN, enc, vi5]
theorem x_bytes (g : Nat) (v : Value) (w : World) (hs : (s1 g v).own.holds w) :
    Calls Try.prog 43 #[.pointer (some ⟨g, 0, none⟩), .int .i64 3] w fun e w' => ∃ b c, e = .returned (.slice (some ⟨b, 0, none⟩) 5 c) ∧ w'.cell? ⟨b, 0, none⟩ = some (.int .u8 2) ∧ w'.cell? ⟨b, 1, none⟩ = some (.int .u8 5) ∧ Chg (fun _ => False) w w' := by
  refine (bytes_any (s1 g v) 3 w 5 (by rw [x_rowB]; rfl) hs (s1_ok g v)).mono fun e w' ⟨A, c, he, ht⟩ => ?_
  rw [x_rowB] at ht
  have hr : w'.ownsRow 0 5 1 (.slice A 5 c) 5 _ := ht.now
  obtain ⟨b, c', e1, _⟩ := row_form hr (by decide)
  injection e1 with e2 e3 e4
  subst e2
  subst he
  exact ⟨b, c, rfl, (row_at hr 0 rfl).1, (row_at hr 1 rfl).1, ht.chg.mono fun _ _ h => h⟩
theorem shown_any (w : World) : Calls Try.prog 12 #[] w fun e w' => e = .returned (.bool true) ∧ Chg (fun _ => False) w w' := by
  have HNW := Lib.hid (fun W => new_any W)
  have HSA := Lib.hid x_seta
  have HSB := Lib.hid x_setb
  have HSC := Lib.hid x_setc
  have HLA := Lib.hid x_last
  have HBY := Lib.hid x_bytes
  go_enter Try.func12, Try.ntmps12
  go_wp2_with (first
    | (go_at_call 39; (with_reducible refine (HNW.out _).mono ?_); rintro e w1 ⟨g, rfl, ht1⟩; have HT1 := Lib.hid ht1; clear ht1)
    | (go_at_call 42; (with_reducible refine (HSA.out _ _ HT1.out.now).mono ?_); rintro e w2 ⟨rfl, ht2⟩; have HT2 := Lib.hid (HT1.out.trans ht2); clear ht2)
    | (go_at_call 42; (with_reducible refine (HSB.out _ _ HT2.out.now).mono ?_); rintro e w3 ⟨rfl, v3, ht3⟩; have HT3 := Lib.hid (HT2.out.trans ht3); clear ht3)
    | (go_at_call 42; (with_reducible refine (HSC.out _ _ _ HT3.out.now).mono ?_); rintro e w4 ⟨rfl, ht4⟩; have HT4 := Lib.hid (HT3.out.trans ht4); clear ht4)
    | (go_at_call 41; (with_reducible refine (HLA.out _ _ _ HT4.out.now).mono ?_); rintro e w5 ⟨A5, c5, rfl, ht5⟩; have HB5 := Lib.hid (Blk.new w5 #[.int .i64 2, .int .i64 5, .int .i64 0, .int .i64 1, .slice A5 0 c5] 75); have HT5 := Lib.hid (HT4.out.kept (ht5.chg.alloc (.cells #[.int .i64 2, .int .i64 5, .int .i64 0, .int .i64 1, .slice A5 0 c5] 75))); clear ht5)
    | (go_at_call 43; (with_reducible refine (HBY.out _ _ _ HT5.out.now).mono ?_); rintro e w6 ⟨b6, c6, rfl, q0, q1, hc6⟩; have HT6 := Lib.hid (HT5.out.kept hc6); obtain ⟨⟨p0, p1, p2, p3, p4⟩, -⟩ := Blk.five (HB5.out.chg hc6 (fun h => h)); clear hc6))
  go_ret
  exact ⟨rfl, HT6.out.chg.mono fun _ _ h => h⟩
theorem names_true (w : World) : Calls Try.prog 3 #[] w fun e w' => e = .returned (.bool true) ∧ Below w.heap.size w w' := by
  go_enter Try.func3, Try.ntmps3
  go_wp2_with (go_at_call 12; refine (shown_any _).mono ?_; rintro r w1 ⟨rfl, hc⟩; have HC := Lib.hid hc; clear hc)
  go_ret
  exact ⟨rfl, HC.out.below (fun _ h => h.elim) (Nat.le_refl _)⟩
end Go.Proofs.Ytkpgdonpmfebaaa.Rl
