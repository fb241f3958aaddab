/- Package roll: Bytes. -/
import Derived.Test.YtkpgdonpmfebaaaRlG
import Derived.Test.YtkpgdonpmfebaaaBwL
namespace Go.Proofs.Ytkpgdonpmfebaaa.Rl
open Go.Proofs.Ytkpgdonpmfebaaa.Bt
open Go.RowKit Go.Hp
attribute [local go_sem] min2_lean min_two max2_lean max_two
set_option linter.unusedSimpArgs false
set_option linter.unusedVariables false
set_option maxRecDepth 100000
def rowB (r : RwA) : List UInt8 := eN r.num ++ eN r.at_ ++ eR r.code r.n r.its
def RlS.bytes (s : RlS) (k : Int) : List UInt8 := if s.has k then rowB (s.last k) else []
theorem RlS.last_may {s : RlS} (h : s.ok) {k : Int} (hk : s.has k = true) : may (s.last k) = true := by
  unfold RlS.last
  rw [if_pos hk]
  unfold RlS.has at hk
  have hk := of_decide_eq_true hk
  rcases h k.toNat (by omega) with h1 | h1
  · exact h1.2
  · rw [h1.1] at hk; exact absurd hk.2.2 (by simp)
theorem may_zero {r : RwA} (h : may r = true) : 1 ≤ r.num ∧ r.num ≤ 1099511627776 ∧ 1 ≤ r.at_ ∧ r.at_ ≤ 1099511627776 ∧ chk r.code r.n r.its = 0 := by
  unfold may at h
  simp only [Bool.and_eq_true, decide_eq_true_eq] at h
  exact ⟨h.1.1.1.1, h.1.1.1.2, h.1.1.2, h.1.2, h.2⟩
theorem new_rw {A : Option Addr} {m c : Nat} {xs : List ByteArray} {w w1 w2 : World} {g : Nat} (h1 : Turns w w1 Hp.Own.emp (its A m c xs)) (h2 : Turns w1 w2 Hp.Own.emp (WrS.mk g (.slice none 0 0) [] false).own) : Turns w w2 Hp.Own.emp (rw_ A m c xs g (.slice none 0 0) []) :=
  Turns.swap (h1.trans (Turns.add h1.now h2))
theorem new_at (w : World) : Calls Try.prog 15 #[] w fun r w' => ∃ g, r = .returned (.pointer (some ⟨g, 0, none⟩)) ∧ w.heap.size ≤ g ∧ Turns w w' Hp.Own.emp (WrS.mk g (.slice none 0 0) [] false).own := (newW_any w).mono fun _ _ h => ⟨_, h.1, Nat.le_refl _, h.2⟩
theorem rw_far {A : Option Addr} {m c : Nat} {xs : List ByteArray} {w w1 : World} {g : Nat} (h1 : Turns w w1 Hp.Own.emp (its A m c xs)) (hg : w1.heap.size < g) : ¬ (rw_ A m c xs g (.slice none 0 0) []).foot w1.heap.size := by
  rintro (h | h | h)
  · exact Nat.lt_irrefl _ ((its A m c xs).lt h1.now _ h)
  · have h : w1.heap.size = g := h
    omega
  · cases h
theorem eR_len {code n : Int} {xs : List ByteArray} (h : chk code n xs = 0) : (eR code n xs).length ≤ 30 + 74 * xs.length := by
  obtain ⟨k0, k1, k2, k3, k4, k5, k6⟩ := chk_zero h
  have l0 : (eN code).length ≤ 10 := eN_len k0 (by omega)
  have l1 : (eN n).length ≤ 10 := eN_len k3 (by omega)
  have l2 : (eN (xs.length : Int)).length ≤ 10 := eN_len (by omega) (by omega)
  have hf : ((xs.map eT).flatten).length ≤ 74 * xs.length := by
    clear h k2 k5 l2
    induction xs with
    | nil => simp
    | cons x r ih =>
      have h1 := ih (fun s hs => k6 s (List.mem_cons_of_mem _ hs))
      have h2 := eT_len (k6 x (List.mem_cons_self ..))
      simp only [List.map_cons, List.flatten_cons, List.length_append, List.length_cons]
      omega
  unfold eR
  split
  · simp only [List.length_append]; omega
  · simp only [List.length_append, List.length_nil]; omega
theorem bytes_any (s : RlS) (k : Int) (w : World) (M : Nat) (hM : (s.bytes k).length = M) (hs : s.own.holds w) (hok : s.ok) :
    Calls Try.prog 43 #[.pointer (some ⟨s.g, 0, none⟩), .int .i64 k] w fun e w' => ∃ A c, e = .returned (.slice A M c) ∧ Turns w w' Hp.Own.emp (rb A M c (s.bytes k)) := by
  have HLA := last_any s k w hs hok
  by_cases hh : s.has k = true
  · have hmy := may_zero (RlS.last_may hok hh)
    have hB : s.bytes k = rowB (s.last k) := by unfold RlS.bytes; rw [if_pos hh]
    rw [hB] at hM ⊢
    rw [hh] at HLA
    have HLA := Lib.hid HLA
    generalize s.last k = r at *
    obtain ⟨num, at_, code, n, xs⟩ := r
    simp only [] at hmy HLA
    obtain ⟨m1, m2, m3, m4, hck⟩ := hmy
    have hck0 := chk_zero hck
    obtain ⟨m, hm⟩ : ∃ m, xs.length = m := ⟨_, rfl⟩
    have hm8 : m ≤ 8 := by omega
    rw [hm] at HLA
    simp only [RwA.cells] at HLA
    unfold rowB at hM ⊢
    simp only [] at hM ⊢
    have l0 : (eN num).length ≤ 10 := eN_len (by omega) (by omega)
    have l1 : (eN at_).length ≤ 10 := eN_len (by omega) (by omega)
    have l2 : (eR code n xs).length ≤ 30 + 74 * xs.length := eR_len hck
    have HNW := Lib.hid (fun W => new_at W)
    have HNA := Lib.hid (fun A c g v W (h : (rw_ A m c xs g v []).holds W) => wr_num g v [] num W h.2.1 (by omega) (by omega) (by simp))
    have HNB := Lib.hid (fun A c g v W (h : (rw_ A m c xs g v ([] ++ eN num)).holds W) => wr_num g v ([] ++ eN num) at_ W h.2.1 (by omega) (by omega) (by rw [List.nil_append]; omega))
    have HPT := Lib.hid (fun A c g v W (h : (rw_ A m c xs g v ([] ++ eN num ++ eN at_)).holds W) => put_any g v ([] ++ eN num ++ eN at_) code n A m c xs W h hm hck (by rw [List.nil_append, List.length_append]; omega))
    have HDN := Lib.hid (fun A c g v W (h : (rw_ A m c xs g v ([] ++ eN num ++ eN at_ ++ eR code n xs)).holds W) => done_any (WrS.mk g v ([] ++ eN num ++ eN at_ ++ eR code n xs) false) W M (by unfold dnB; simp only [List.nil_append, if_false, Bool.false_eq_true]; exact hM) h.2.1 (by simp only [List.nil_append, List.length_append]; omega))
    have HM := Lib.hid hm
    clear hs hok hh hB m1 m2 m3 m4 hck hck0 hm l0 l1 l2 hM
    go_enter Try.func43, Try.ntmps43
    go_wp2_with (first
      | (go_at_call 41; (with_reducible refine HLA.out.mono ?_); rintro e w1 ⟨A, c, rfl, ht1⟩; have HT1 := Lib.hid (show Turns w w1 Hp.Own.emp (its A m c xs) from by unfold irow at ht1; unfold its; rw [HM.out] at ht1; exact ht1); have HB1 := Lib.hid (Blk.new w1 #[.int .i64 num, .int .i64 at_, .int .i64 code, .int .i64 n, .slice A m c] 75); clear ht1)
      | (go_at_call 15; (with_reducible refine (HNW.out _).mono ?_); rintro e w2 ⟨g, rfl, hg, ht2⟩; have HT2 := Lib.hid (new_rw (HT1.out.alloc _) ht2); have hg : w1.heap.size < g := (by simp at hg; omega); have HF := Lib.hid (rw_far HT1.out hg); have HB2 := Lib.hid (HB1.out.chg ht2.chg (fun h => h)); have HU2 := Lib.hid (Turns.refl HT2.out.now); obtain ⟨⟨q0, q1, q2, q3, q4⟩, -⟩ := Blk.five (HB2.out.chg HU2.out.chg HF.out); clear ht2 hg)
      | (go_at_call 59; (with_reducible refine (HNA.out _ _ _ _ _ HU2.out.now).mono ?_); rintro e w3 ⟨rfl, v3, ht3⟩; have HU3 := Lib.hid (rw_w HU2.out ht3); clear ht3 q0 q1 q2 q3 q4; obtain ⟨⟨q0, q1, q2, q3, q4⟩, -⟩ := Blk.five (HB2.out.chg HU3.out.chg HF.out))
      | (go_at_call 59; (with_reducible refine (HNB.out _ _ _ _ _ HU3.out.now).mono ?_); rintro e w4 ⟨rfl, v4, ht4⟩; have HU4 := Lib.hid (rw_w HU3.out ht4); clear ht4 q0 q1 q2 q3 q4; obtain ⟨⟨q0, q1, q2, q3, q4⟩, -⟩ := Blk.five (HB2.out.chg HU4.out.chg HF.out))
      | (go_at_call 87; (with_reducible refine (HPT.out _ _ _ _ _ HU4.out.now).mono ?_); rintro e w5 ⟨rfl, v5, ht5⟩; have HU5 := Lib.hid (HU4.out.trans ht5); clear ht5 q0 q1 q2 q3 q4)
      | (go_at_call 18; (with_reducible refine (HDN.out _ _ _ _ _ HU5.out.now).mono ?_); rintro e w6 ⟨A6, c6, rfl, ht6⟩; have HT6 := Lib.hid ht6; clear ht6))
    go_ret
    refine ⟨A6, c6, rfl, ?_⟩
    have h6 := HT6.out
    have h2 : Turns w w5 Hp.Own.emp Hp.Own.emp := Turns.emptied (HT2.out.trans HU5.out)
    have h7 := h2.trans h6
    unfold dnB at h7
    simpa using h7
  · have hh : s.has k = false := by simpa using hh
    have hB : s.bytes k = [] := by unfold RlS.bytes; rw [hh]; rfl
    have hL : s.last k = RwA.zero := by unfold RlS.last; rw [hh]; rfl
    rw [hB] at hM ⊢
    rw [hh, hL] at HLA
    have HLA := Lib.hid HLA
    obtain rfl : M = 0 := by simpa using hM.symm
    clear hs hok hh hB hL hM
    simp only [RwA.cells, RwA.zero] at HLA
    go_enter Try.func43, Try.ntmps43
    go_wp2_with (go_at_call 41; (with_reducible refine HLA.out.mono ?_); rintro e w1 ⟨A, c, rfl, ht1⟩; have HT1 := Lib.hid ht1; clear ht1)
    go_ret
    exact ⟨none, 0, rfl, ⟨HT1.out.chg.alloc _, World.ownsRow_nil _ _ _ _, fun b hb => by cases hb⟩⟩
end Go.Proofs.Ytkpgdonpmfebaaa.Rl
