/- The reader of package bits: bytes with their length. -/
import Derived.Test.YtkpgdonpmfebaaaBrN
import Derived.Test.YtkpgdonpmfebaaaAppS
namespace Go.Proofs.Ytkpgdonpmfebaaa.Bt
open Go.RowKit Go.Hp
attribute [local go_sem] min2_lean min_two max2_lean max_two
set_option linter.unusedSimpArgs false
set_option linter.unusedVariables false
set_option maxRecDepth 100000

/-- What 'some' reads, of an item that is whole. -/
def someOf (most : Int) (bs : List UInt8) (a : Nat) : List UInt8 × Nat × Int :=
  let q := numOf most 14 bs a
  if q.2.2 = 0 then (if (bs.length : Int) - q.2.1 < q.1 then ([], q.2.1, 10) else ((bs.drop q.2.1).take q.1.toNat, q.2.1 + q.1.toNat, 0)) else ([], q.2.1, q.2.2)
theorem some_err (s : ItS) (most : Int) (w : World) (hs : s.own.holds w) (he : (s.e == 0) = false) :
    Calls Try.prog 81 #[.pointer (some ⟨s.x, 0, none⟩), .int .i64 most] w fun r w' => r = .returned (.slice none 0 0) ∧ ∃ n, w.drewN n = w' := by
  have HO := Lib.hid (num_item_err s most 14 w hs he)
  obtain ⟨_, _, c2, _, _⟩ := ItS.cells hs
  have hne : (s.e != 0) = true := by simpa using he
  clear hs
  go_enter Try.func81, Try.ntmps81
  go_wp2_with (go_at_call 83; refine HO.out.mono ?_; rintro q w1 ⟨rfl, rfl⟩)
  go_quiet (fail)
  go_wp2
  go_ret
  exact ⟨rfl, _, rfl⟩
theorem numOf_bounds (most big : Int) (bs : List UInt8) (a : Nat) (ha : a ≤ bs.length) (hb : big ≠ 0) : 0 ≤ (numOf most big bs a).1 ∧ (numOf most big bs a).1 < 9223372036854775808 ∧ a ≤ (numOf most big bs a).2.1 ∧ (numOf most big bs a).2.1 ≤ bs.length ∧
    ((numOf most big bs a).2.2 = 0 → bs ≠ []) := by
  have hv := gr_val 9 127 bs 9 0 0 a rfl (by decide)
  have hp := gr_place 9 127 bs 9 0 0 a ha
  have h128 : (128 : Nat) ^ 9 = 9223372036854775808 := by decide
  have hne : bs = [] → (gr 9 127 bs 9 0 0 a).2.2 ≠ 0 := by
    rintro rfl
    rw [gr, dif_neg (by simp)]
    simp
  unfold numOf
  generalize gr 9 127 bs 9 0 0 a = q at *
  simp only []
  split
  · rename_i h00
    split
    · refine ⟨by simp, by simp, hp.1, hp.2, fun h => absurd h hb⟩
    · refine ⟨by simp, by simp only []; omega, hp.1, hp.2, fun _ hbs => ?_⟩
      exact hne hbs h00
  · rename_i h0
    exact ⟨by simp, by simp, hp.1, hp.2, fun h => absurd h h0⟩
set_option maxHeartbeats 1000000 in
theorem some_ok (s : ItS) (most : Int) (w : World) (hs : s.own.holds w) (he : s.e = 0) (ha : s.at_ ≤ s.r.bs.length) (hl : s.r.bs.length < 4611686018427387904) :
    Calls Try.prog 81 #[.pointer (some ⟨s.x, 0, none⟩), .int .i64 most] w fun r w' => ∃ v,
      r = .returned v ∧ Src w' v (someOf most s.r.bs s.at_).1.length 1 ((someOf most s.r.bs s.at_).1.map bv) ∧ Turns w w' s.own ({ s with at_ := (someOf most s.r.bs s.at_).2.1, e := (someOf most s.r.bs s.at_).2.2 } : ItS).own := by
  have HO := Lib.hid (num_item_ok s most 14 w hs he ha hl (by decide))
  have hv := numOf_bounds most 14 s.r.bs s.at_ ha (by decide)
  obtain ⟨N, hN⟩ : ∃ N, N = someOf most s.r.bs s.at_ := ⟨_, rfl⟩
  have HN := Lib.hid hN
  rw [← hN]
  simp only [someOf] at HN
  clear hN
  generalize numOf most 14 s.r.bs s.at_ = q at *
  obtain ⟨q1, q2, q3⟩ := q
  simp only [] at hv HN HO
  obtain ⟨hv1, hv2, hv3, hv4, hv5⟩ := hv
  obtain ⟨n, rfl⟩ : ∃ n : Nat, q1 = n := ⟨q1.toNat, by omega⟩
  obtain ⟨A, c, hf⟩ := RdS.form hs.2.1
  clear hs
  go_enter Try.func81, Try.ntmps81
  by_cases h3 : q3 = 0
  · subst h3
    have hw1 : IntKind.i64.wrap ((s.r.bs.length : Int) - (q2 : Int)) = (s.r.bs.length : Int) - (q2 : Int) := IntWalk.i64_in _ (by omega)
    by_cases h4 : (s.r.bs.length : Int) - q2 < (n : Int)
    · have hd : decide ((s.r.bs.length : Int) - q2 < (n : Int)) = true := by simp; omega
      go_wp2_with (first
        | (go_at_call 83; refine HO.out.mono ?_; rintro q w1 ⟨rfl, ht1⟩; have HT1 := Lib.hid ht1; obtain ⟨k0, k1, k2, _, kf⟩ := ItS.cells ht1.now; obtain ⟨d0, _, _, _, _⟩ := RdS.cells ht1.now.2.1; clear ht1; simp only [] at k0 k1 k2 kf d0; rw [hf] at d0))
      go_quiet (fail)
      go_wp2_with (go_at_call 99; refine (fail_new s.x 10 _ (by exact k2) (by exact kf)).mono ?_; rintro q w2 ⟨rfl, rfl⟩)
      go_ret
      have := HN.out
      rw [if_pos trivial, if_pos (by omega)] at this
      rw [this]
      exact ⟨_, rfl, ⟨rfl, Or.inl ⟨_, rfl, rfl⟩⟩, (HT1.out.drewN nq).trans (ItS.setE (by exact (HT1.out.drewN nq).now) 10)⟩
    · have hd : decide ((s.r.bs.length : Int) - q2 < (n : Int)) = false := by simp; omega
      obtain ⟨m, hm⟩ : ∃ m, m = q2 + n := ⟨_, rfl⟩
      have HM := Lib.hid hm
      have hw2 : IntKind.i64.wrap ((q2 : Int) + (n : Int)) = (m : Int) := by rw [IntWalk.i64_in _ (by omega)]; omega
      have hw3 : IntKind.i64.wrap ((m : Int) - (n : Int)) = (q2 : Int) := by rw [IntWalk.i64_in _ (by omega)]; omega
      have hm1 : q2 ≤ m := by omega
      have hm2 : m ≤ s.r.bs.length := by omega
      clear hm
      go_wp2_with (first
        | (go_at_call 83; refine HO.out.mono ?_; rintro q w1 ⟨rfl, ht1⟩; have HT1 := Lib.hid ht1; obtain ⟨k0, k1, k2, kf1, kf⟩ := ItS.cells ht1.now; obtain ⟨d0, _, _, _, _⟩ := RdS.cells ht1.now.2.1; clear ht1; simp only [] at k0 k1 k2 kf1 kf d0; rw [hf] at d0))
      go_quiet (fail)
      go_wp2_with fail
      obtain ⟨W, hW⟩ : ∃ W, W = (w1.drewN nq).setCell ⟨s.x, 1, none⟩ (.int .i64 (m : Int)) := ⟨_, rfl⟩
      rw [← hW]
      have HT2 : Hid (Turns w W s.own ({ s with at_ := m, e := 0 } : ItS).own) := by
        rw [hW]; exact (HT1.out.drewN nq).trans (ItS.setAt (by exact (HT1.out.drewN nq).now) m (m : Int) rfl)
      clear hW
      have hbl : 1 ≤ s.r.bs.length := by
        have := hv5 trivial
        rcases Nat.eq_zero_or_pos s.r.bs.length with h | h
        · exact absurd (List.eq_nil_of_length_eq_zero h) this
        · exact h
      obtain ⟨gv, c', hvv, _, hlc⟩ := row_form HT2.out.now.2.1.2.1 hbl
      simp only [] at hvv hlc
      obtain ⟨rfl, rfl⟩ : A = some ⟨gv, 0, none⟩ ∧ c = c' := by rw [hf] at hvv; simpa using hvv
      obtain ⟨e0, e1, _, _, _⟩ := ItS.cells HT2.out.now
      obtain ⟨e3, _, _, _, _⟩ := RdS.cells HT2.out.now.2.1
      simp only [] at e0 e1 e3
      rw [hf] at e3
      go_quiet (fail)
      generalize hA' : (if c = q2 then some (⟨gv, 0, none⟩ : Addr) else some ⟨gv, q2, none⟩) = A'
      generalize hmm : m - q2 = mm
      have HA' := Lib.hid hA'
      have HMM := Lib.hid hmm
      generalize c - q2 = cc at *
      clear hA' hmm hw1 hw2 hw3 hd HT1 k0 k1 k2 kf1 kf d0 e0 e1 e3
      go_wp2
      go_ret
      have := HN.out
      rw [if_pos trivial, if_neg (by omega)] at this
      simp only [Int.toNat_natCast] at this
      rw [this]
      have hnn : mm = n := by have := HM.out; have := HMM.out; omega
      subst hnn
      rw [← HM.out]
      have hln : ((s.r.bs.drop q2).take mm).length = mm := by rw [List.length_take, List.length_drop]; have := HM.out; omega
      refine ⟨.slice A' mm cc, rfl, ⟨by simp, Or.inr ?_⟩, HT2.out.drewN _⟩
      simp only [hln]
      have hrow := World.ownsRow.cells (g := gv) HT2.out.now.2.1.2.1 (by simp only []; rw [hf]; rfl)
      have hA2 := HA'.out
      by_cases hcq : c = q2
      · rw [if_pos hcq] at hA2
        have h0 : mm = 0 := by have := HM.out; omega
        subst h0
        exact ⟨_, cc, by rw [← hA2], fun j u hu => by simp at hu⟩
      · rw [if_neg hcq] at hA2
        refine ⟨_, cc, by rw [← hA2], fun j u hu => ?_⟩
        have ha1 : (⟨gv, q2, none⟩ : Addr).add j = (⟨gv, 0, none⟩ : Addr).add (q2 + j) := by
          unfold Addr.add
          by_cases h1 : j = 0 <;> by_cases h2 : q2 + j = 0 <;> simp_all
        rw [ha1]
        refine hrow (q2 + j) u ?_
        rw [List.getElem?_map] at hu ⊢
        rw [List.getElem?_take] at hu
        split at hu
        · rwa [List.getElem?_drop] at hu
        · simp at hu
  · have hd1 : (q3 == 0) = false := by simpa using h3
    have hd2 : (q3 != 0) = true := by simpa using h3
    go_wp2_with (first
      | (go_at_call 83; refine HO.out.mono ?_; rintro q w1 ⟨rfl, ht1⟩; have HT1 := Lib.hid ht1; obtain ⟨k0, k1, k2, kf1, kf⟩ := ItS.cells ht1.now; clear ht1; simp only [] at k0 k1 k2 kf1 kf))
    go_quiet (fail)
    go_wp2_with fail
    go_ret
    have := HN.out
    rw [if_neg h3] at this
    rw [this]
    exact ⟨_, rfl, ⟨rfl, Or.inl ⟨_, rfl, rfl⟩⟩, HT1.out.drewN _⟩
end Go.Proofs.Ytkpgdonpmfebaaa.Bt
