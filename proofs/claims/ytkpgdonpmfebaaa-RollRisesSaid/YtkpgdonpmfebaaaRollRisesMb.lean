/- Texts of this claim, one behind the other: BrB, BrE, BrM, BrT, BrY, BlS, AppH, BlL, BsC, BrR, Arg, BiO, BiB, BlD, BlE, BwS, RlG, Kw, BsD, BwR, BlG, BpV, BlK. -/
import Derived.Test.YtkpgdonpmfebaaaRollRisesMa
import Derived.Defers
import Derived.Lib.Zigzag
import Derived.Laws.IdiomStrings
import Derived.Laws.CopyOwn
import Derived.Lib.BufferRead
import Derived.Deep.RegionHeld3
import Derived.Deep.RegionLaw
import Derived.Deep.Slices
import Derived.ChangeSame
import Derived.Deep.DeepAppendWide
/- The reader of package bits: bytes with their length. -/
namespace Go.Proofs.Ytkpgdonpmfebaaa.Bt
open Go.RowKit Go.Hp
attribute [local go_sem] min2_lean min_two max2_lean max_two
set_option linter.unusedSimpArgs false
set_option linter.unusedVariables false
set_option maxRecDepth 100000

/-- What 'some' reads, of an item that is whole. -/
def someOf (most : Int) (bs : List UInt8) (a : Nat) : List UInt8 × Nat × Int :=
  let q := numOf most 14 bs a
  if q.2.2 = 0 then (if (bs.length : Int) - q.2.1 < q.1 then ([], q.2.1, 10) else ((bs.drop q.2.1).take q.1.toNat, q.2.1 + q.1.toNat, 0)) else ([], q.2.1, q.2.2)
theorem some_err (s : ItS) (most : Int) (w : World) (hs : s.own.holds w) (he : (s.e == 0) = false) :
    Calls Try.prog 81 #[.pointer (some ⟨s.x, 0, none⟩), .int .i64 most] w fun r w' => r = .returned (.slice none 0 0) ∧ ∃ n, w.drewN n = w' := by
  have HO := Lib.hid (num_item_err s most 14 w hs he)
  obtain ⟨_, _, c2, _, _⟩ := ItS.cells hs
  have hne : (s.e != 0) = true := by simpa using he
  clear hs
  go_enter Try.func81, Try.ntmps81
  go_wp2_with (go_at_call 83; refine HO.out.mono ?_; rintro q w1 ⟨rfl, rfl⟩)
  go_quiet (fail)
  go_wp2
  go_ret
  exact ⟨rfl, _, rfl⟩
theorem numOf_bounds (most big : Int) (bs : List UInt8) (a : Nat) (ha : a ≤ bs.length) (hb : big ≠ 0) : 0 ≤ (numOf most big bs a).1 ∧ (numOf most big bs a).1 < 9223372036854775808 ∧ a ≤ (numOf most big bs a).2.1 ∧ (numOf most big bs a).2.1 ≤ bs.length ∧
    ((numOf most big bs a).2.2 = 0 → bs ≠ []) := by
  have hv := gr_val 9 127 bs 9 0 0 a rfl (by decide)
  have hp := gr_place 9 127 bs 9 0 0 a ha
  have h128 : (128 : Nat) ^ 9 = 9223372036854775808 := by decide
  have hne : bs = [] → (gr 9 127 bs 9 0 0 a).2.2 ≠ 0 := by
    rintro rfl
    rw [gr, dif_neg (by simp)]
    simp
  unfold numOf
  generalize gr 9 127 bs 9 0 0 a = q at *
  simp only []
  split
  · rename_i h00
    split
    · refine ⟨by simp, by simp, hp.1, hp.2, fun h => absurd h hb⟩
    · refine ⟨by simp, by simp only []; omega, hp.1, hp.2, fun _ hbs => ?_⟩
      exact hne hbs h00
  · rename_i h0
    exact ⟨by simp, by simp, hp.1, hp.2, fun h => absurd h h0⟩
set_option maxHeartbeats 1000000 in
theorem some_ok (s : ItS) (most : Int) (w : World) (hs : s.own.holds w) (he : s.e = 0) (ha : s.at_ ≤ s.r.bs.length) (hl : s.r.bs.length < 4611686018427387904) :
    Calls Try.prog 81 #[.pointer (some ⟨s.x, 0, none⟩), .int .i64 most] w fun r w' => ∃ v,
      r = .returned v ∧ Src w' v (someOf most s.r.bs s.at_).1.length 1 ((someOf most s.r.bs s.at_).1.map bv) ∧ Turns w w' s.own ({ s with at_ := (someOf most s.r.bs s.at_).2.1, e := (someOf most s.r.bs s.at_).2.2 } : ItS).own := by
  have HO := Lib.hid (num_item_ok s most 14 w hs he ha hl (by decide))
  have hv := numOf_bounds most 14 s.r.bs s.at_ ha (by decide)
  obtain ⟨N, hN⟩ : ∃ N, N = someOf most s.r.bs s.at_ := ⟨_, rfl⟩
  have HN := Lib.hid hN
  rw [← hN]
  simp only [someOf] at HN
  clear hN
  generalize numOf most 14 s.r.bs s.at_ = q at *
  obtain ⟨q1, q2, q3⟩ := q
  simp only [] at hv HN HO
  obtain ⟨hv1, hv2, hv3, hv4, hv5⟩ := hv
  obtain ⟨n, rfl⟩ : ∃ n : Nat, q1 = n := ⟨q1.toNat, by omega⟩
  obtain ⟨A, c, hf⟩ := RdS.form hs.2.1
  clear hs
  go_enter Try.func81, Try.ntmps81
  by_cases h3 : q3 = 0
  · subst h3
    have hw1 : IntKind.i64.wrap ((s.r.bs.length : Int) - (q2 : Int)) = (s.r.bs.length : Int) - (q2 : Int) := IntWalk.i64_in _ (by omega)
    by_cases h4 : (s.r.bs.length : Int) - q2 < (n : Int)
    · have hd : decide ((s.r.bs.length : Int) - q2 < (n : Int)) = true := by simp; omega
      go_wp2_with (first
        | (go_at_call 83; refine HO.out.mono ?_; rintro q w1 ⟨rfl, ht1⟩; have HT1 := Lib.hid ht1; obtain ⟨k0, k1, k2, _, kf⟩ := ItS.cells ht1.now; obtain ⟨d0, _, _, _, _⟩ := RdS.cells ht1.now.2.1; clear ht1; simp only [] at k0 k1 k2 kf d0; rw [hf] at d0))
      go_quiet (fail)
      go_wp2_with (go_at_call 99; refine (fail_new s.x 10 _ (by exact k2) (by exact kf)).mono ?_; rintro q w2 ⟨rfl, rfl⟩)
      go_ret
      have := HN.out
      rw [if_pos trivial, if_pos (by omega)] at this
      rw [this]
      exact ⟨_, rfl, ⟨rfl, Or.inl ⟨_, rfl, rfl⟩⟩, (HT1.out.drewN nq).trans (ItS.setE (by exact (HT1.out.drewN nq).now) 10)⟩
    · have hd : decide ((s.r.bs.length : Int) - q2 < (n : Int)) = false := by simp; omega
      obtain ⟨m, hm⟩ : ∃ m, m = q2 + n := ⟨_, rfl⟩
      have HM := Lib.hid hm
      have hw2 : IntKind.i64.wrap ((q2 : Int) + (n : Int)) = (m : Int) := by rw [IntWalk.i64_in _ (by omega)]; omega
      have hw3 : IntKind.i64.wrap ((m : Int) - (n : Int)) = (q2 : Int) := by rw [IntWalk.i64_in _ (by omega)]; omega
      have hm1 : q2 ≤ m := by omega
      have hm2 : m ≤ s.r.bs.length := by omega
      clear hm
      go_wp2_with (first
        | (go_at_call 83; refine HO.out.mono ?_; rintro q w1 ⟨rfl, ht1⟩; have HT1 := Lib.hid ht1; obtain ⟨k0, k1, k2, kf1, kf⟩ := ItS.cells ht1.now; obtain ⟨d0, _, _, _, _⟩ := RdS.cells ht1.now.2.1; clear ht1; simp only [] at k0 k1 k2 kf1 kf d0; rw [hf] at d0))
      go_quiet (fail)
      go_wp2_with fail
      obtain ⟨W, hW⟩ : ∃ W, W = (w1.drewN nq).setCell ⟨s.x, 1, none⟩ (.int .i64 (m : Int)) := ⟨_, rfl⟩
      rw [← hW]
      have HT2 : Hid (Turns w W s.own ({ s with at_ := m, e := 0 } : ItS).own) := by
        rw [hW]; exact (HT1.out.drewN nq).trans (ItS.setAt (by exact (HT1.out.drewN nq).now) m (m : Int) rfl)
      clear hW
      have hbl : 1 ≤ s.r.bs.length := by
        have := hv5 trivial
        rcases Nat.eq_zero_or_pos s.r.bs.length with h | h
        · exact absurd (List.eq_nil_of_length_eq_zero h) this
        · exact h
      obtain ⟨gv, c', hvv, _, hlc⟩ := row_form HT2.out.now.2.1.2.1 hbl
      simp only [] at hvv hlc
      obtain ⟨rfl, rfl⟩ : A = some ⟨gv, 0, none⟩ ∧ c = c' := by rw [hf] at hvv; simpa using hvv
      obtain ⟨e0, e1, _, _, _⟩ := ItS.cells HT2.out.now
      obtain ⟨e3, _, _, _, _⟩ := RdS.cells HT2.out.now.2.1
      simp only [] at e0 e1 e3
      rw [hf] at e3
      go_quiet (fail)
      generalize hA' : (if c = q2 then some (⟨gv, 0, none⟩ : Addr) else some ⟨gv, q2, none⟩) = A'
      generalize hmm : m - q2 = mm
      have HA' := Lib.hid hA'
      have HMM := Lib.hid hmm
      generalize c - q2 = cc at *
      clear hA' hmm hw1 hw2 hw3 hd HT1 k0 k1 k2 kf1 kf d0 e0 e1 e3
      go_wp2
      go_ret
      have := HN.out
      rw [if_pos trivial, if_neg (by omega)] at this
      simp only [Int.toNat_natCast] at this
      rw [this]
      have hnn : mm = n := by have := HM.out; have := HMM.out; omega
      subst hnn
      rw [← HM.out]
      have hln : ((s.r.bs.drop q2).take mm).length = mm := by rw [List.length_take, List.length_drop]; have := HM.out; omega
      refine ⟨.slice A' mm cc, rfl, ⟨by simp, Or.inr ?_⟩, HT2.out.drewN _⟩
      simp only [hln]
      have hrow := World.ownsRow.cells (g := gv) HT2.out.now.2.1.2.1 (by simp only []; rw [hf]; rfl)
      have hA2 := HA'.out
      by_cases hcq : c = q2
      · rw [if_pos hcq] at hA2
        have h0 : mm = 0 := by have := HM.out; omega
        subst h0
        exact ⟨_, cc, by rw [← hA2], fun j u hu => by simp at hu⟩
      · rw [if_neg hcq] at hA2
        refine ⟨_, cc, by rw [← hA2], fun j u hu => ?_⟩
        have ha1 : (⟨gv, q2, none⟩ : Addr).add j = (⟨gv, 0, none⟩ : Addr).add (q2 + j) := by
          unfold Addr.add
          by_cases h1 : j = 0 <;> by_cases h2 : q2 + j = 0 <;> simp_all
        rw [ha1]
        refine hrow (q2 + j) u ?_
        rw [List.getElem?_map] at hu ⊢
        rw [List.getElem?_take] at hu
        split at hu
        · rwa [List.getElem?_drop] at hu
        · simp at hu
  · have hd1 : (q3 == 0) = false := by simpa using h3
    have hd2 : (q3 != 0) = true := by simpa using h3
    go_wp2_with (first
      | (go_at_call 83; refine HO.out.mono ?_; rintro q w1 ⟨rfl, ht1⟩; have HT1 := Lib.hid ht1; obtain ⟨k0, k1, k2, kf1, kf⟩ := ItS.cells ht1.now; clear ht1; simp only [] at k0 k1 k2 kf1 kf))
    go_quiet (fail)
    go_wp2_with fail
    go_ret
    have := HN.out
    rw [if_neg h3] at this
    rw [this]
    exact ⟨_, rfl, ⟨rfl, Or.inl ⟨_, rfl, rfl⟩⟩, HT1.out.drewN _⟩
end Go.Proofs.Ytkpgdonpmfebaaa.Bt

/- The reader of package bits: its methods. -/
namespace Go.Proofs.Ytkpgdonpmfebaaa.Bt
open Go.RowKit Go.Hp
attribute [local go_sem] min2_lean min_two max2_lean max_two
set_option linter.unusedSimpArgs false
set_option linter.unusedVariables false
set_option maxRecDepth 100000

theorem Turns.newl {w : World} {O : Own} (h : O.holds w) (cs : Array Value) (T : TypeId) : Turns w (w.alloc (.cells cs T)) O (Own.both (Own.blk w.heap.size cs T) O) :=
  ⟨(Chg.refl _ _).alloc _, ⟨Blk.new _ _ _, Own.chg h ((Chg.refl (fun _ => False) _).alloc _) (fun _ _ hf => hf), fun b h1 h2 => by
    have h1 : b = w.heap.size := h1
    have := O.lt h b h2
    omega⟩, fun b hb => by
    rcases hb with hb | hb
    · have hb : b = w.heap.size := hb
      exact Or.inr (by omega)
    · exact Or.inl hb⟩
theorem begin_any (r : RdS) (w : World) (hs : r.own.holds w) :
    Calls Try.prog 80 #[.pointer (some ⟨r.g, 0, none⟩)] w fun q w' => ∃ x, q = .returned (.tuple #[.pointer (some ⟨x, 0, none⟩), .func (Fn.func 100) #[.pointer (some ⟨x, 0, none⟩)] #[]]) ∧
      Turns w w' r.own (ItS.mk x r r.at_ r.e).own := by
  obtain ⟨c0, c1, c2, f1, f2⟩ := RdS.cells hs
  have HS := Lib.hid hs
  have hmf : ∀ (fn : Fn) (first cap : Array Value) (w : World), (Instr.makeFunc fn first cap).run Try.prog w = .ok (.func fn first cap) w := fun _ _ _ _ => rfl
  clear hs
  go_enter Try.func80, Try.ntmps80
  go_wp2
  go_still_tail 10, (by kernel_rfl)
  change wpList _ _ _ _ _ (World.drew _)
  go_wp2
  go_ret2
  exact ⟨_, rfl, ((Turns.refl HS.out).drew).trans (Turns.newl (by exact (Turns.refl HS.out).drew.now) _ 143)⟩
/-- What an item leaves of its reader at its end. -/
def ItS.ended (s : ItS) : RdS := if s.r.e = 0 then (if s.e = 0 then { s.r with at_ := s.at_ } else { s.r with e := s.e }) else s.r
theorem Turns.dropl {w : World} {g : Nat} {cs : Array Value} {T : TypeId} {O : Own} (h : (Own.both (Own.blk g cs T) O).holds w) : Turns w w (Own.both (Own.blk g cs T) O) O :=
  ⟨Chg.refl _ _, h.2.1, fun b hb => Or.inl (Or.inr hb)⟩
theorem RdS.setAt {s : RdS} {w : World} (h : s.own.holds w) (k : Nat) : Turns w (w.setCell ⟨s.g, 1, none⟩ (.int .i64 k)) s.own ({ s with at_ := k } : RdS).own :=
  Turns.bothl h (SetBlk.of_set h.1 1 (.int .i64 k))
theorem RdS.setE {s : RdS} {w : World} (h : s.own.holds w) (u : Int) : Turns w (w.setCell ⟨s.g, 2, none⟩ (.int .i64 u)) s.own ({ s with e := u } : RdS).own :=
  Turns.bothl h (SetBlk.of_set h.1 2 (.int .i64 u))
theorem end_any (s : ItS) (w : World) (hs : s.own.holds w) (u : FrameMode) :
    CallsD Try.prog 100 #[.pointer (some ⟨s.x, 0, none⟩)] u w fun e u' w' => u' = u ∧ (e = .returned (.tuple #[]) ∧ Turns w w' s.own s.ended.own) := by
  obtain ⟨c0, c1, c2, f1, f2⟩ := ItS.cells hs
  obtain ⟨d0, d1, d2, g1, g2⟩ := RdS.cells hs.2.1
  have HS := Lib.hid hs
  clear hs
  by_cases h1 : s.r.e = 0
  · by_cases h2 : s.e = 0
    · have HE : s.ended = { s.r with at_ := s.at_ } := by rw [ItS.ended, if_pos h1, if_pos h2]
      rw [HE]
      clear HE
      rw [h1] at d2
      rw [h2] at c2
      go_enter_d Try.func100, Try.ntmps100
      go_wp2
      go_still_tail 10, (by kernel_rfl)
      change wpList _ _ _ _ _ (World.drew _)
      go_wp2
      go_end0
      exact ⟨rfl, (((Turns.refl HS.out).trans (Turns.dropl HS.out)).drew).trans (RdS.setAt (by exact (Turns.dropl HS.out).drew.now) s.at_)⟩
    · have HE : s.ended = { s.r with e := s.e } := by rw [ItS.ended, if_pos h1, if_neg h2]
      rw [HE]
      clear HE
      rw [h1] at d2
      have hd : (s.e != 0) = true := by simpa using h2
      go_enter_d Try.func100, Try.ntmps100
      go_wp2
      go_still_tail 10, (by kernel_rfl)
      change wpList _ _ _ _ _ (World.drew _)
      go_wp2
      refine bodyPost_ret (results_none rfl _ _ _) rfl ?_
      exact ⟨rfl, (((Turns.refl HS.out).trans (Turns.dropl HS.out)).drew).trans (RdS.setE (by exact (Turns.dropl HS.out).drew.now) s.e)⟩
  · have HE : s.ended = s.r := by rw [ItS.ended, if_neg h1]
    have hd : (s.r.e != 0) = true := by simpa using h1
    rw [HE]
    clear HE
    go_enter_d Try.func100, Try.ntmps100
    go_wp2
    refine bodyPost_ret (results_none rfl _ _ _) rfl ?_
    exact ⟨rfl, Turns.dropl HS.out⟩
end Go.Proofs.Ytkpgdonpmfebaaa.Bt

/- The reader of package bits: its methods. -/
namespace Go.Proofs.Ytkpgdonpmfebaaa.Bt
open Go.RowKit Go.Hp
attribute [local go_sem] min2_lean min_two max2_lean max_two
set_option linter.unusedSimpArgs false
set_option linter.unusedVariables false
set_option maxRecDepth 100000

theorem rnum_ok (r : RdS) (most : Int) (w : World) (hs : r.own.holds w) (he : r.e = 0) (ha : r.at_ ≤ r.bs.length) (hl : r.bs.length < 4611686018427387904) :
    Calls Try.prog 38 #[.pointer (some ⟨r.g, 0, none⟩), .int .i64 most] w fun q w' =>
      q = .returned (.int .i64 (numOf most 13 r.bs r.at_).1) ∧ Turns w w' r.own (ItS.mk 0 r (numOf most 13 r.bs r.at_).2.1 (numOf most 13 r.bs r.at_).2.2).ended.own := by
  have HB := Lib.hid (begin_any r w hs)
  clear hs
  generalize hF : (ItS.mk 0 r (numOf most 13 r.bs r.at_).2.1 (numOf most 13 r.bs r.at_).2.2).ended = F
  have HF := Lib.hid hF
  clear hF
  go_enter_defers Try.func38, Try.ntmps38
  go_wp2_with (first
    | (go_at_call 80; refine HB.out.mono ?_; rintro q w1 ⟨x, rfl, ht1⟩; have HT1 := Lib.hid ht1; clear ht1)
    | (go_at_call 83; refine (num_item_ok (ItS.mk x r r.at_ r.e) most 13 _ HT1.out.now he ha hl (by decide)).mono ?_; rintro q w2 ⟨rfl, ht2⟩; have HT2 := Lib.hid ht2; clear ht2))
  refine leaves_cons (f := 100) (args := #[.pointer (some ⟨x, 0, none⟩)]) (by simp) (by simp [go_sem]) ?_
  refine (end_any _ _ HT2.out.now .returning).mono ?_
  rintro e u' w'' ⟨rfl, rfl, ht3⟩
  exact ⟨_, results_tmp rfl _ _ _, rfl, by rw [← HF.out]; exact (HT1.out.trans HT2.out).trans ht3⟩
theorem rnum_err (r : RdS) (most : Int) (w : World) (hs : r.own.holds w) (he : (r.e == 0) = false) :
    Calls Try.prog 38 #[.pointer (some ⟨r.g, 0, none⟩), .int .i64 most] w fun q w' => q = .returned (.int .i64 0) ∧ Turns w w' r.own r.own := by
  have HB := Lib.hid (begin_any r w hs)
  clear hs
  go_enter_defers Try.func38, Try.ntmps38
  go_wp2_with (first
    | (go_at_call 80; refine HB.out.mono ?_; rintro q w1 ⟨x, rfl, ht1⟩; have HT1 := Lib.hid ht1; clear ht1)
    | (go_at_call 83; refine (num_item_err (ItS.mk x r r.at_ r.e) most 13 _ HT1.out.now he).mono ?_; rintro q w2 ⟨rfl, rfl⟩))
  refine leaves_cons (f := 100) (args := #[.pointer (some ⟨x, 0, none⟩)]) (by simp) (by simp [go_sem]) ?_
  refine (end_any _ _ HT1.out.now .returning).mono ?_
  rintro e u' w'' ⟨rfl, rfl, ht3⟩
  have hF : (ItS.mk x r r.at_ r.e).ended = r := by rw [ItS.ended, if_neg (by simpa using he)]
  rw [hF] at ht3
  exact ⟨_, results_tmp rfl _ _ _, rfl, HT1.out.trans ht3⟩
/-- A number with its sign, read back. -/
def uz (n : Nat) : Int := if n % 2 = 0 then ((n / 2 : Nat) : Int) else -((n / 2 : Nat) : Int) - 1
theorem uz_bits (n : Nat) (hn : n < 2 ^ 64) :
    bits BinOp.xor IntKind.i64 (IntKind.i64.wrap ((n : Int) / 2)) (IntKind.i64.wrap (-IntKind.i64.wrap (bits BinOp.and IntKind.u64 (n : Int) 1))) = uz n := by
  rw [Lib.u64_and1 (n : Int) (by omega) (by omega), show IntKind.i64.wrap ((n : Int) / 2) = ((n / 2 : Nat) : Int) by rw [IntKind.wrap_i64]; omega]
  have hm : (n : Int) % 2 = ((n % 2 : Nat) : Int) := by omega
  unfold uz
  rcases Nat.mod_two_eq_zero_or_one n with h | h
  · rw [hm, h, if_pos rfl]
    have h1 : bits BinOp.xor IntKind.i64 ((n / 2 : Nat) : Int) 0 = ((n / 2 : Nat) : Int) := by
      have : n / 2 < 9223372036854775808 := by omega
      show IntKind.i64.wrap ((BitVec.ofInt 64 ((n / 2 : Nat) : Int) ^^^ BitVec.ofInt 64 0).toNat : Int) = _
      have h2 : (BitVec.ofInt 64 ((n / 2 : Nat) : Int)).toNat = n / 2 := by
        rw [BitVec.ofInt_natCast, BitVec.toNat_ofNat]; exact Nat.mod_eq_of_lt (by omega)
      rw [BitVec.toNat_xor, h2, show (BitVec.ofInt 64 0).toNat = 0 by decide, Nat.xor_zero, IntKind.wrap_i64]
      omega
    exact h1
  · rw [hm, h, if_neg (by omega)]
    have h1 : bits BinOp.xor IntKind.i64 ((n / 2 : Nat) : Int) (-1) = -((n / 2 : Nat) : Int) - 1 := by
      rw [← Lib.i64_not (n / 2) (by omega)]
      show IntKind.i64.wrap ((BitVec.ofInt 64 _ ^^^ BitVec.ofInt 64 _).toNat : Int) = IntKind.i64.wrap ((BitVec.ofInt 64 _ ^^^ BitVec.ofInt 64 _).toNat : Int)
      rw [BitVec.xor_comm]
    exact h1
theorem rsigned_ok (r : RdS) (w : World) (hs : r.own.holds w) (he : r.e = 0) (ha : r.at_ ≤ r.bs.length) (hl : r.bs.length < 4611686018427387904) :
    Calls Try.prog 62 #[.pointer (some ⟨r.g, 0, none⟩)] w fun q w' =>
      q = .returned (.int .i64 (if (gr 10 1 r.bs 10 0 0 r.at_).2.2 = 0 then uz (gr 10 1 r.bs 10 0 0 r.at_).1 else 0)) ∧ Turns w w' r.own (ItS.mk 0 r (gr 10 1 r.bs 10 0 0 r.at_).2.1 (gr 10 1 r.bs 10 0 0 r.at_).2.2).ended.own := by
  have HB := Lib.hid (begin_any r w hs)
  clear hs
  have hv := gr_val10 r.bs 10 0 0 r.at_ rfl (by decide) (by omega)
  have HGR : Hid (∀ x w1, (ItS.mk x r r.at_ r.e).own.holds w1 → Calls Try.prog 95 #[.pointer (some ⟨x, 0, none⟩), .int .i64 10, .int .u8 1] w1 fun r_1 w' =>
      r_1 = .returned (.int .u64 (gr 10 1 r.bs 10 0 0 r.at_).1) ∧ Turns w1 w' (ItS.mk x r r.at_ r.e).own (ItS.mk x r (gr 10 1 r.bs 10 0 0 r.at_).2.1 (gr 10 1 r.bs 10 0 0 r.at_).2.2).own) :=
    fun x w1 h => groups_ok (ItS.mk x r r.at_ r.e) 10 1 w1 h he ha hl (by omega) (by omega) (by omega)
  generalize gr 10 1 r.bs 10 0 0 r.at_ = G at *
  obtain ⟨n, a, e⟩ := G
  simp only [] at hv HGR ⊢
  generalize hF : (ItS.mk 0 r a e).ended = F
  have HF := Lib.hid hF
  clear hF
  by_cases h0 : e = 0
  · subst h0
    have HU := Lib.hid (uz_bits n (hv rfl))
    rw [if_pos rfl]
    go_enter_defers Try.func62, Try.ntmps62
    go_wp2_with (first
      | (go_at_call 80; refine HB.out.mono ?_; rintro q w1 ⟨x, rfl, ht1⟩; have HT1 := Lib.hid ht1; clear ht1)
      | (go_at_call 95; refine (HGR.out x _ HT1.out.now).mono ?_; rintro q w2 ⟨rfl, ht2⟩; have HT2 := Lib.hid ht2; have k2 := (ItS.cells ht2.now).2.2.1; clear ht2; simp only [] at k2))
    refine leaves_cons (f := 100) (args := #[.pointer (some ⟨x, 0, none⟩)]) (by simp) (by simp [go_sem]) ?_
    refine (end_any _ _ HT2.out.now .returning).mono ?_
    rintro e u' w'' ⟨rfl, rfl, ht3⟩
    exact ⟨_, results_tmp rfl _ _ _, by rw [← HU.out]; simp only [IntWalk.i64_left]; rfl, by rw [← HF.out]; exact (HT1.out.trans HT2.out).trans ht3⟩
  · have hd : (e != 0) = true := by simpa using h0
    rw [if_neg h0]
    go_enter_defers Try.func62, Try.ntmps62
    go_wp2_with (first
      | (go_at_call 80; refine HB.out.mono ?_; rintro q w1 ⟨x, rfl, ht1⟩; have HT1 := Lib.hid ht1; clear ht1)
      | (go_at_call 95; refine (HGR.out x _ HT1.out.now).mono ?_; rintro q w2 ⟨rfl, ht2⟩; have HT2 := Lib.hid ht2; have k2 := (ItS.cells ht2.now).2.2.1; clear ht2; simp only [] at k2))
    refine leaves_cons (f := 100) (args := #[.pointer (some ⟨x, 0, none⟩)]) (by simp) (by simp [go_sem]) ?_
    refine (end_any _ _ HT2.out.now .returning).mono ?_
    rintro e u' w'' ⟨rfl, rfl, ht3⟩
    exact ⟨_, results_tmp rfl _ _ _, rfl, by rw [← HF.out]; exact (HT1.out.trans HT2.out).trans ht3⟩
theorem rsigned_err (r : RdS) (w : World) (hs : r.own.holds w) (he : (r.e == 0) = false) :
    Calls Try.prog 62 #[.pointer (some ⟨r.g, 0, none⟩)] w fun q w' => q = .returned (.int .i64 0) ∧ Turns w w' r.own r.own := by
  have HB := Lib.hid (begin_any r w hs)
  have hd : (r.e != 0) = true := by simpa using he
  clear hs
  go_enter_defers Try.func62, Try.ntmps62
  go_wp2_with (first
    | (go_at_call 80; refine HB.out.mono ?_; rintro q w1 ⟨x, rfl, ht1⟩; have HT1 := Lib.hid ht1; clear ht1)
    | (go_at_call 95; refine (groups_err (ItS.mk x r r.at_ r.e) 10 1 _ HT1.out.now he (by omega) (by omega)).mono ?_; rintro q w2 ⟨rfl, rfl⟩; have k2 := (ItS.cells HT1.out.now).2.2.1; simp only [] at k2))
  refine leaves_cons (f := 100) (args := #[.pointer (some ⟨x, 0, none⟩)]) (by simp) (by simp [go_sem]) ?_
  refine (end_any _ _ HT1.out.now .returning).mono ?_
  rintro e u' w'' ⟨rfl, rfl, ht3⟩
  have hF : (ItS.mk x r r.at_ r.e).ended = r := by rw [ItS.ended, if_neg (by simpa using he)]
  rw [hF] at ht3
  exact ⟨_, results_tmp rfl _ _ _, rfl, HT1.out.trans ht3⟩
end Go.Proofs.Ytkpgdonpmfebaaa.Bt

/- The reader of package bits: its other methods. -/
namespace Go.Proofs.Ytkpgdonpmfebaaa.Bt
open Go.RowKit Go.Hp
attribute [local go_sem] min2_lean min_two max2_lean max_two
set_option linter.unusedSimpArgs false
set_option linter.unusedVariables false
set_option maxRecDepth 100000

/-- What 'Bool' reads. -/
def boolOf (bs : List UInt8) (a : Nat) : Bool × Nat × Int := if h : a < bs.length then (if 1 < bs[a].toNat then (false, a + 1, 12) else (decide (bs[a].toNat = 1), a + 1, 0)) else (false, a, 10)
theorem rbool_ok (r : RdS) (w : World) (hs : r.own.holds w) (he : r.e = 0) (ha : r.at_ ≤ r.bs.length) (hl : r.bs.length < 4611686018427387904) :
    Calls Try.prog 73 #[.pointer (some ⟨r.g, 0, none⟩)] w fun q w' =>
      q = .returned (.bool (boolOf r.bs r.at_).1) ∧ Turns w w' r.own (ItS.mk 0 r (boolOf r.bs r.at_).2.1 (boolOf r.bs r.at_).2.2).ended.own := by
  have HB := Lib.hid (begin_any r w hs)
  clear hs
  by_cases hlt : r.at_ < r.bs.length
  · have HO : Hid (∀ x w1, (ItS.mk x r r.at_ r.e).own.holds w1 → Calls Try.prog 98 #[.pointer (some ⟨x, 0, none⟩)] w1 fun q w' => q = .returned (bv r.bs[r.at_]) ∧ Turns w1 w' (ItS.mk x r r.at_ r.e).own (ItS.mk x r (r.at_ + 1) r.e).own) :=
      fun x w1 h => one_ok (ItS.mk x r r.at_ r.e) w1 h he hlt hl
    obtain ⟨z, hz⟩ : ∃ z, r.bs[r.at_].toNat = z := ⟨_, rfl⟩
    have HBV : Hid (bv r.bs[r.at_] = .int .u8 z) := by show bv r.bs[r.at_] = _; rw [← hz]; rfl
    rw [HBV.out] at HO
    clear HBV
    have hG : boolOf r.bs r.at_ = if 1 < z then (false, r.at_ + 1, 12) else (decide (z = 1), r.at_ + 1, 0) := by rw [boolOf, dif_pos hlt, hz]
    rw [hG]
    clear hG
    rw [he] at HO HB
    by_cases h1 : 1 < z
    · rw [if_pos h1]
      simp only []
      have hd : decide (1 < z) = true := by simpa using h1
      generalize hF : (ItS.mk 0 r (r.at_ + 1) 12).ended = F
      have HF := Lib.hid hF
      clear hF
      go_enter_defers Try.func73, Try.ntmps73
      go_wp2_with (first
        | (go_at_call 80; refine HB.out.mono ?_; rintro q w1 ⟨x, rfl, ht1⟩; have HT1 := Lib.hid ht1; clear ht1)
        | (go_at_call 98; refine (HO.out x _ HT1.out.now).mono ?_; rintro q w2 ⟨rfl, ht2⟩; have HT2 := Lib.hid ht2; have k2 := (ItS.cells ht2.now).2.2.1; have kf := (ItS.cells ht2.now).2.2.2.2; clear ht2; simp only [] at k2 kf)
        | (go_at_call 99; refine (fail_new x 12 _ (by exact k2) (by exact kf)).mono ?_; rintro q w3 ⟨rfl, rfl⟩))
      refine leaves_cons (f := 100) (args := #[.pointer (some ⟨x, 0, none⟩)]) (by simp) (by simp [go_sem]) ?_
      refine (end_any _ _ (HT2.out.trans (ItS.setE HT2.out.now 12)).now .returning).mono ?_
      rintro e u' w'' ⟨rfl, rfl, ht3⟩
      exact ⟨_, results_tmp rfl _ _ _, rfl, by rw [← HF.out]; exact ((HT1.out.trans HT2.out).trans (ItS.setE HT2.out.now 12)).trans ht3⟩
    · rw [if_neg h1]
      simp only []
      have hd : decide (1 < z) = false := by simpa using h1
      have hz1 : (decide (z = 1)) = ((z : Int) == 1) := by
        by_cases h : z = 1
        · simp [h]
        · simp [h]; omega
      rw [hz1]
      clear hz1
      generalize hF : (ItS.mk 0 r (r.at_ + 1) 0).ended = F
      have HF := Lib.hid hF
      clear hF
      go_enter_defers Try.func73, Try.ntmps73
      go_wp2_with (first
        | (go_at_call 80; refine HB.out.mono ?_; rintro q w1 ⟨x, rfl, ht1⟩; have HT1 := Lib.hid ht1; clear ht1)
        | (go_at_call 98; refine (HO.out x _ HT1.out.now).mono ?_; rintro q w2 ⟨rfl, ht2⟩; have HT2 := Lib.hid ht2; have k2 := (ItS.cells ht2.now).2.2.1; have kf := (ItS.cells ht2.now).2.2.2.2; clear ht2; simp only [] at k2 kf))
      refine leaves_cons (f := 100) (args := #[.pointer (some ⟨x, 0, none⟩)]) (by simp) (by simp [go_sem]) ?_
      refine (end_any _ _ HT2.out.now .returning).mono ?_
      rintro e u' w'' ⟨rfl, rfl, ht3⟩
      exact ⟨_, results_tmp rfl _ _ _, rfl, by rw [← HF.out]; exact (HT1.out.trans HT2.out).trans ht3⟩
  · have HO : Hid (∀ x w1, (ItS.mk x r r.at_ r.e).own.holds w1 → Calls Try.prog 98 #[.pointer (some ⟨x, 0, none⟩)] w1 fun q w' => q = .returned (.int .u8 0) ∧ Turns w1 w' (ItS.mk x r r.at_ r.e).own (ItS.mk x r r.at_ 10).own) :=
      fun x w1 h => one_short (ItS.mk x r r.at_ r.e) w1 h he (by simp only []; omega) hl
    have hG : boolOf r.bs r.at_ = (false, r.at_, 10) := by rw [boolOf, dif_neg hlt]
    rw [hG]
    clear hG
    simp only []
    generalize hF : (ItS.mk 0 r r.at_ 10).ended = F
    have HF := Lib.hid hF
    clear hF
    go_enter_defers Try.func73, Try.ntmps73
    go_wp2_with (first
      | (go_at_call 80; refine HB.out.mono ?_; rintro q w1 ⟨x, rfl, ht1⟩; have HT1 := Lib.hid ht1; clear ht1)
      | (go_at_call 98; refine (HO.out x _ HT1.out.now).mono ?_; rintro q w2 ⟨rfl, ht2⟩; have HT2 := Lib.hid ht2; have k2 := (ItS.cells ht2.now).2.2.1; have kf := (ItS.cells ht2.now).2.2.2.2; clear ht2; simp only [] at k2 kf))
    refine leaves_cons (f := 100) (args := #[.pointer (some ⟨x, 0, none⟩)]) (by simp) (by simp [go_sem]) ?_
    refine (end_any _ _ HT2.out.now .returning).mono ?_
    rintro e u' w'' ⟨rfl, rfl, ht3⟩
    exact ⟨_, results_tmp rfl _ _ _, rfl, by rw [← HF.out]; exact (HT1.out.trans HT2.out).trans ht3⟩
theorem rbool_err (r : RdS) (w : World) (hs : r.own.holds w) (he : (r.e == 0) = false) :
    Calls Try.prog 73 #[.pointer (some ⟨r.g, 0, none⟩)] w fun q w' => q = .returned (.bool false) ∧ Turns w w' r.own r.own := by
  have HB := Lib.hid (begin_any r w hs)
  clear hs
  go_enter_defers Try.func73, Try.ntmps73
  go_wp2_with (first
    | (go_at_call 80; refine HB.out.mono ?_; rintro q w1 ⟨x, rfl, ht1⟩; have HT1 := Lib.hid ht1; clear ht1)
    | (go_at_call 98; refine (one_err (ItS.mk x r r.at_ r.e) _ HT1.out.now he).mono ?_; rintro q w2 ⟨rfl, rfl⟩; have k2 := (ItS.cells HT1.out.now).2.2.1; simp only [] at k2))
  refine leaves_cons (f := 100) (args := #[.pointer (some ⟨x, 0, none⟩)]) (by simp) (by simp [go_sem]) ?_
  refine (end_any _ _ HT1.out.now .returning).mono ?_
  rintro e u' w'' ⟨rfl, rfl, ht3⟩
  have hF : (ItS.mk x r r.at_ r.e).ended = r := by rw [ItS.ended, if_neg (by simpa using he)]
  rw [hF] at ht3
  exact ⟨_, results_tmp rfl _ _ _, rfl, HT1.out.trans ht3⟩
theorem conv_src (w : World) (v : Value) (l : List UInt8) (h : Src w v l.length 1 (l.map bv)) : (convert 38 9 v).run Try.prog w = .ok (.string ⟨l.toArray⟩) w := by
  rcases h.2 with ⟨c, rfl, h0⟩ | ⟨ad, c, rfl, hc⟩
  · have : l = [] := List.eq_nil_of_length_eq_zero h0
    subst this
    exact Lib.run_convert_nil_bytes w 38 9 5 c Try.underlying38 Try.underlying5 Try.underlying9
  · exact run_convert_bytes_back w 38 9 5 ad c l Try.underlying38 Try.underlying5 Try.underlying9 (fun j hj => hc j _ (by simp [hj, bv]))
theorem rtext_ok (r : RdS) (most : Int) (w : World) (hs : r.own.holds w) (he : r.e = 0) (ha : r.at_ ≤ r.bs.length) (hl : r.bs.length < 4611686018427387904) :
    Calls Try.prog 75 #[.pointer (some ⟨r.g, 0, none⟩), .int .i64 most] w fun q w' =>
      q = .returned (.string ⟨(someOf most r.bs r.at_).1.toArray⟩) ∧ Turns w w' r.own (ItS.mk 0 r (someOf most r.bs r.at_).2.1 (someOf most r.bs r.at_).2.2).ended.own := by
  have HB := Lib.hid (begin_any r w hs)
  clear hs
  have HO : Hid (∀ x w1, (ItS.mk x r r.at_ r.e).own.holds w1 → Calls Try.prog 81 #[.pointer (some ⟨x, 0, none⟩), .int .i64 most] w1 fun q w' => ∃ v, q = .returned v ∧
      Src w' v (someOf most r.bs r.at_).1.length 1 ((someOf most r.bs r.at_).1.map bv) ∧ Turns w1 w' (ItS.mk x r r.at_ r.e).own (ItS.mk x r (someOf most r.bs r.at_).2.1 (someOf most r.bs r.at_).2.2).own) :=
    fun x w1 h => some_ok (ItS.mk x r r.at_ r.e) most w1 h he ha hl
  generalize someOf most r.bs r.at_ = G at *
  obtain ⟨l, a, e⟩ := G
  simp only [] at HO ⊢
  generalize hF : (ItS.mk 0 r a e).ended = F
  have HF := Lib.hid hF
  clear hF
  go_enter_defers Try.func75, Try.ntmps75
  go_wp2_with (first
    | (go_at_call 80; refine HB.out.mono ?_; rintro q w1 ⟨x, rfl, ht1⟩; have HT1 := Lib.hid ht1; clear ht1)
    | (go_at_call 81; refine (HO.out x _ HT1.out.now).mono ?_; rintro q w2 ⟨v, rfl, hv, ht2⟩; have HT2 := Lib.hid ht2; have hcv := conv_src _ _ _ hv; clear ht2 hv))
  refine leaves_cons (f := 100) (args := #[.pointer (some ⟨x, 0, none⟩)]) (by simp) (by simp [go_sem]) ?_
  refine (end_any _ _ HT2.out.now .returning).mono ?_
  rintro e u' w'' ⟨rfl, rfl, ht3⟩
  exact ⟨_, results_tmp rfl _ _ _, rfl, by rw [← HF.out]; exact (HT1.out.trans HT2.out).trans ht3⟩
theorem rtext_err (r : RdS) (most : Int) (w : World) (hs : r.own.holds w) (he : (r.e == 0) = false) :
    Calls Try.prog 75 #[.pointer (some ⟨r.g, 0, none⟩), .int .i64 most] w fun q w' => q = .returned (.string ⟨#[]⟩) ∧ Turns w w' r.own r.own := by
  have HB := Lib.hid (begin_any r w hs)
  clear hs
  go_enter_defers Try.func75, Try.ntmps75
  go_wp2_with (first
    | (go_at_call 80; refine HB.out.mono ?_; rintro q w1 ⟨x, rfl, ht1⟩; have HT1 := Lib.hid ht1; clear ht1)
    | (go_at_call 81; refine (some_err (ItS.mk x r r.at_ r.e) most _ HT1.out.now he).mono ?_; rintro q w2 ⟨rfl, n, rfl⟩; have hcv := conv_src (w1.drewN n) (.slice none 0 0) [] ⟨rfl, Or.inl ⟨0, rfl, rfl⟩⟩))
  refine leaves_cons (f := 100) (args := #[.pointer (some ⟨x, 0, none⟩)]) (by simp) (by simp [go_sem]) ?_
  refine (end_any (ItS.mk x r r.at_ r.e) _ (by exact (HT1.out.drewN n).now) .returning).mono ?_
  rintro e u' w'' ⟨rfl, rfl, ht3⟩
  have hF : (ItS.mk x r r.at_ r.e).ended = r := by rw [ItS.ended, if_neg (by simpa using he)]
  rw [hF] at ht3
  exact ⟨_, results_tmp rfl _ _ _, rfl, (HT1.out.drewN n).trans ht3⟩
end Go.Proofs.Ytkpgdonpmfebaaa.Bt

/- The reader of package bits: its last methods. -/
namespace Go.Proofs.Ytkpgdonpmfebaaa.Bt
open Go.RowKit Go.Hp
attribute [local go_sem] min2_lean min_two max2_lean max_two
set_option linter.unusedSimpArgs false
set_option linter.unusedVariables false
set_option maxRecDepth 100000

theorem block_lt_of_cell {w : World} {p : Addr} {u : Value} (h : w.cell? p = some u) : p.block < w.heap.size := by
  rcases Nat.lt_or_ge p.block w.heap.size with hlt | hge
  · exact hlt
  · have : w.heap[p.block]? = none := Array.getElem?_eq_none hge
    simp [World.cell?, this] at h
theorem Src.keep {w w' : World} {x : Value} {n size : Nat} {cs : List Value} (h : Src w x n size cs) (hc : Chg (fun _ => False) w w') : Src w' x n size cs := by
  refine ⟨h.1, ?_⟩
  rcases h.2 with h | ⟨ad, c, rfl, hcell⟩
  · exact Or.inl h
  · exact Or.inr ⟨ad, c, rfl, fun j u hu => (hc.cell (block_lt_of_cell (hcell j u hu)) (fun h => h)).trans (hcell j u hu)⟩
theorem fail_any (r : RdS) (c : Int) (w : World) (hs : r.own.holds w) :
    Calls Try.prog 77 #[.pointer (some ⟨r.g, 0, none⟩), .int .i64 c] w fun q w' => q = .returned (.tuple #[]) ∧ Turns w w' r.own (if r.e = 0 then { r with e := c } else r : RdS).own := by
  obtain ⟨d0, d1, d2, g1, g2⟩ := RdS.cells hs
  have HS := Lib.hid hs
  clear hs
  by_cases h : r.e = 0
  · rw [if_pos h]
    rw [h] at d2
    go_enter Try.func77, Try.ntmps77
    go_wp2
    go_end0
    exact ⟨rfl, RdS.setE HS.out c⟩
  · rw [if_neg h]
    have hd : (r.e == 0) = false := by simpa using h
    go_enter Try.func77, Try.ntmps77
    go_wp2
    go_end0
    exact ⟨rfl, Turns.refl HS.out⟩
theorem err_any (r : RdS) (w : World) (hs : r.own.holds w) :
    Calls Try.prog 29 #[.pointer (some ⟨r.g, 0, none⟩)] w fun q w' => q = .returned (.tuple #[.int .i64 r.e, .int .i64 r.at_]) ∧ ∃ n, w.drewN n = w' := by
  obtain ⟨d0, d1, d2, g1, g2⟩ := RdS.cells hs
  clear hs
  go_enter Try.func29, Try.ntmps29
  go_wp2
  go_quiet (fail)
  go_wp2
  go_ret2
  exact ⟨rfl, _, rfl⟩
/-- What 'Close' leaves. -/
def RdS.closed (r : RdS) : RdS := if r.at_ < r.bs.length then (if r.e = 0 then { r with e := 15 } else r) else r
theorem close_any (r : RdS) (w : World) (hs : r.own.holds w) :
    Calls Try.prog 35 #[.pointer (some ⟨r.g, 0, none⟩)] w fun q w' => q = .returned (.int .i64 r.closed.e) ∧ Turns w w' r.own r.closed.own := by
  obtain ⟨d0, d1, d2, g1, g2⟩ := RdS.cells hs
  obtain ⟨A, c, hf⟩ := RdS.form hs
  rw [hf] at d0
  have HS := Lib.hid hs
  clear hs
  by_cases h : r.at_ < r.bs.length
  · have hd : decide ((r.at_ : Int) < (r.bs.length : Int)) = true := by simp; omega
    have hd' : decide (r.at_ < r.bs.length) = true := by simpa using h
    have hF : r.closed = if r.e = 0 then { r with e := 15 } else r := by rw [RdS.closed, if_pos h]
    have HF := Lib.hid hF
    generalize r.closed = F at *
    have hg : F.g = r.g := by rw [hF]; split <;> rfl
    clear hF
    go_enter Try.func35, Try.ntmps35
    go_wp2
    go_quiet (fail)
    go_wp2_with (go_at_call 77; refine (fail_any r 15 _ (by exact ((Turns.refl HS.out).drewN nq).now)).mono ?_; rintro q w2 ⟨rfl, ht⟩; rw [← HF.out] at ht; have HT := Lib.hid (((Turns.refl HS.out).drewN nq).trans ht); have k2 := (RdS.cells ht.now).2.2.1; rw [hg] at k2; clear ht)
    go_ret
    exact ⟨rfl, HT.out⟩
  · have hd : decide ((r.at_ : Int) < (r.bs.length : Int)) = false := by simp; omega
    have hd' : decide (r.at_ < r.bs.length) = false := by simpa using h
    have hF : r.closed = r := by rw [RdS.closed, if_neg h]
    rw [hF]
    go_enter Try.func35, Try.ntmps35
    go_wp2
    go_quiet (fail)
    go_wp2
    go_ret
    exact ⟨rfl, (Turns.refl HS.out).drewN _⟩
theorem newR_any (A : Option Addr) (c : Nat) (bs : List UInt8) (w : World) (hx : Src w (.slice A bs.length c) bs.length 1 (bs.map bv)) (hl : bs.length ≤ 140737488355328) :
    Calls Try.prog 25 #[.slice A bs.length c] w fun q w' => ∃ g, q = .returned (.pointer (some ⟨g, 0, none⟩)) ∧ Turns w w' Own.emp (RdS.mk g (.slice (some ⟨w.heap.size, 0, none⟩) bs.length bs.length) bs 0 0).own := by
  obtain ⟨i0, hi0, hz0, hz1, hz2⟩ := info_parts Try.info5
  have HX := Lib.hid hx
  clear hx
  obtain ⟨m, hm⟩ : ∃ m, bs.length = m := ⟨_, rfl⟩
  have HM := Lib.hid hm
  rw [hm]
  rw [hm] at HX hl
  clear hm
  go_enter Try.func25, Try.ntmps25
  go_wp2_with (first
    | (at_make; refine wpList_make_full _ rfl _ _ 38 rfl 0 5 i0 (.int .u8 0) 1 Try.underlying38 hi0 hz0 hz1 .i64 .i64 m m m rfl rfl rfl rfl (by rw [hz2]; omega) (by simp only [maxLen]; omega) (Nat.zero_le _) ?_; intro w1 ho1 hg1; have HM1 := Lib.hid (Turns.made ho1 hg1); have HO1 := Lib.hid ho1; clear ho1 hg1)
    | (refine wpList_copy_all _ rfl (.tmp 7) (.tmp 8) 38 38 rfl 5 Try.underlying38 (by rw [hi0]; simp [hz1]) _ 0 m _ rfl HO1.out _ (bs.map bv) rfl (Src.keep HX.out (HM1.out.chg.mono (fun _ _ h => h))) (by simp [bv, Value.oneCell']) ?_; intro w2 ho2 hg2; have HT2 := Lib.hid (HM1.out.trans (Turns.row ho2 hg2 (Or.inl rfl))); clear ho2 hg2))
  go_ret
  refine ⟨_, rfl, ?_⟩
  have h := HT2.out.trans (Turns.newl HT2.out.now #[.slice (some ⟨w.heap.size, 0, none⟩) m m, .int .i64 0, .int .i64 0] 111)
  show Turns _ _ _ (Own.both (Own.blk _ #[_, _, _] 111) (Own.row 5 1 _ bs.length _))
  rw [HM.out]
  exact h
theorem Turns.addl {w w' : World} {O A : Own} (h : O.holds w) (t : Turns w w' Own.emp A) : Turns w w' O (Own.both A O) :=
  ⟨t.chg.mono fun _ _ hf => hf.elim, ⟨t.now, Own.chg h t.chg (fun _ _ hf => hf), fun b h1 h2 => (t.near b h1).elim (fun hf => hf) (fun hge => by have := O.lt h b h2; omega)⟩,
    fun b hb => hb.elim (fun h1 => (t.near b h1).elim (fun hf => hf.elim) Or.inr) Or.inl⟩
theorem Turns.right {w w' : World} {A O O' : Own} (h : (Own.both A O).holds w) (t : Turns w w' O O') : Turns w w' (Own.both A O) (Own.both A O') :=
  ⟨t.chg.mono fun _ _ hf => Or.inr hf, ⟨Own.chg h.1 t.chg (fun b h1 h2 => h.2.2 b h1 h2), t.now, fun b h1 h2 => (t.near b h2).elim (fun hf => h.2.2 b h1 hf) (fun hge => by have := A.lt h.1 b h1; omega)⟩,
    fun b hb => hb.elim (fun h1 => Or.inl (Or.inl h1)) (fun h2 => (t.near b h2).elim (fun hf => Or.inl (Or.inr hf)) Or.inr)⟩
theorem someOf_len (most : Int) (bs : List UInt8) (a : Nat) : (someOf most bs a).1.length ≤ bs.length := by
  unfold someOf
  simp only []
  split
  · split
    · simp
    · simp only [List.length_take, List.length_drop]; omega
  · simp
theorem rbytes_ok (r : RdS) (most : Int) (w : World) (hs : r.own.holds w) (he : r.e = 0) (ha : r.at_ ≤ r.bs.length) (hl : r.bs.length ≤ 140737488355328) :
    Calls Try.prog 31 #[.pointer (some ⟨r.g, 0, none⟩), .int .i64 most] w fun q w' => ∃ o,
      q = .returned o ∧ Turns w w' r.own (Own.both (Own.row 5 1 o (someOf most r.bs r.at_).1.length ((someOf most r.bs r.at_).1.map bv)) (ItS.mk 0 r (someOf most r.bs r.at_).2.1 (someOf most r.bs r.at_).2.2).ended.own) ∧ ∃ b, o.ownBlock = some b ∧ w.heap.size ≤ b := by
  have HB := Lib.hid (begin_any r w hs)
  clear hs
  have HO : Hid (∀ x w1, (ItS.mk x r r.at_ r.e).own.holds w1 → Calls Try.prog 81 #[.pointer (some ⟨x, 0, none⟩), .int .i64 most] w1 fun q w' => ∃ v, q = .returned v ∧
      Src w' v (someOf most r.bs r.at_).1.length 1 ((someOf most r.bs r.at_).1.map bv) ∧ Turns w1 w' (ItS.mk x r r.at_ r.e).own (ItS.mk x r (someOf most r.bs r.at_).2.1 (someOf most r.bs r.at_).2.2).own) :=
    fun x w1 h => some_ok (ItS.mk x r r.at_ r.e) most w1 h he ha (by simp only []; omega)
  have hsl := someOf_len most r.bs r.at_
  generalize someOf most r.bs r.at_ = G at *
  obtain ⟨l, a, e⟩ := G
  simp only [] at HO hsl ⊢
  generalize hF : (ItS.mk 0 r a e).ended = F
  have HF := Lib.hid hF
  clear hF
  obtain ⟨i0, hi0, hz0, hz1, hz2⟩ := info_parts Try.info5
  obtain ⟨m, hm⟩ : ∃ m, l.length = m := ⟨_, rfl⟩
  have HM := Lib.hid hm
  rw [hm] at HO ⊢
  have hml : m ≤ 140737488355328 := by omega
  clear hm
  go_enter_defers Try.func31, Try.ntmps31
  go_wp2_with (first
    | (go_at_call 80; refine HB.out.mono ?_; rintro q w1 ⟨x, rfl, ht1⟩; have HT1 := Lib.hid ht1; clear ht1)
    | (go_at_call 81; refine (HO.out x _ HT1.out.now).mono ?_; rintro q w2 ⟨v, rfl, hv, ht2⟩; have HT2 := Lib.hid ht2; have HV := Lib.hid hv; obtain ⟨A, c, rfl⟩ := hv.len; clear ht2 hv)
    | (at_make; refine wpList_make_full _ rfl _ _ 38 rfl 0 5 i0 (.int .u8 0) 1 Try.underlying38 hi0 hz0 hz1 .i64 .i64 m m m rfl rfl rfl rfl (by rw [hz2]; omega) (by simp only [maxLen]; omega) (Nat.zero_le _) ?_; intro w3 ho1 hg1; have HM1 := Lib.hid (Turns.made ho1 hg1); have HO1 := Lib.hid ho1; clear ho1 hg1)
    | (refine wpList_copy_all _ rfl (.tmp 21) (.tmp 22) 38 38 rfl 5 Try.underlying38 (by rw [hi0]; simp [hz1]) _ 0 m _ rfl HO1.out _ (l.map bv) rfl (Src.keep HV.out (HM1.out.chg.mono (fun _ _ h => h))) (by simp [bv, Value.oneCell']) ?_; intro w4 ho2 hg2; have HT4 := Lib.hid (HM1.out.trans (Turns.row ho2 hg2 (Or.inl rfl))); clear ho2 hg2))
  have H4 := HT4.out
  have hn := HT2.out.now
  refine leaves_cons (f := 100) (args := #[.pointer (some ⟨x, 0, none⟩)]) (by simp) (by simp [go_sem]) ?_
  refine (end_any (ItS.mk x r a e) _ (Own.chg hn H4.chg (fun _ _ h => h)) .returning).mono ?_
  rintro e1 u' w'' ⟨rfl, rfl, ht3⟩
  have T12 := HT1.out.trans HT2.out
  have T24 := Turns.addl hn H4
  refine ⟨_, results_tmp rfl _ _ _, _, rfl, ?_, _, rfl, T12.chg.size⟩
  rw [← HF.out]
  exact (T12.trans T24).trans (Turns.right T24.now ht3)
theorem rbytes_err (r : RdS) (most : Int) (w : World) (hs : r.own.holds w) (he : (r.e == 0) = false) :
    Calls Try.prog 31 #[.pointer (some ⟨r.g, 0, none⟩), .int .i64 most] w fun q w' => ∃ o, q = .returned o ∧ Turns w w' r.own (Own.both (Own.row 5 1 o 0 []) r.own) ∧ ∃ b, o.ownBlock = some b ∧ w.heap.size ≤ b := by
  have HB := Lib.hid (begin_any r w hs)
  clear hs
  obtain ⟨i0, hi0, hz0, hz1, hz2⟩ := info_parts Try.info5
  go_enter_defers Try.func31, Try.ntmps31
  go_wp2_with (first
    | (go_at_call 80; refine HB.out.mono ?_; rintro q w1 ⟨x, rfl, ht1⟩; have HT1 := Lib.hid ht1; clear ht1)
    | (go_at_call 81; refine (some_err (ItS.mk x r r.at_ r.e) most _ HT1.out.now he).mono ?_; rintro q w2 ⟨rfl, n, rfl⟩)
    | (at_make; refine wpList_make_full _ rfl _ _ 38 rfl 0 5 i0 (.int .u8 0) 1 Try.underlying38 hi0 hz0 hz1 .i64 .i64 0 0 0 rfl rfl rfl rfl (by rw [hz2]; omega) (by simp only [maxLen]; omega) (Nat.zero_le _) ?_; intro w3 ho1 hg1; have HM1 := Lib.hid (Turns.made ho1 hg1); have HO1 := Lib.hid ho1; clear ho1 hg1)
    | (refine wpList_copy_all _ rfl (.tmp 21) (.tmp 22) 38 38 rfl 5 Try.underlying38 (by rw [hi0]; simp [hz1]) _ 0 0 _ rfl HO1.out _ [] rfl ⟨rfl, Or.inl ⟨0, rfl, rfl⟩⟩ (by simp [bv, Value.oneCell']) ?_; intro w4 ho2 hg2; have HT4 := Lib.hid (HM1.out.trans (Turns.row ho2 hg2 (Or.inl rfl))); clear ho2 hg2))
  have H4 := HT4.out
  have hn := (HT1.out.drewN n).now
  refine leaves_cons (f := 100) (args := #[.pointer (some ⟨x, 0, none⟩)]) (by simp) (by simp [go_sem]) ?_
  refine (end_any (ItS.mk x r r.at_ r.e) _ (Own.chg hn H4.chg (fun _ _ h => h)) .returning).mono ?_
  rintro e1 u' w'' ⟨rfl, rfl, ht3⟩
  have hF : (ItS.mk x r r.at_ r.e).ended = r := by rw [ItS.ended, if_neg (by simpa using he)]
  rw [hF] at ht3
  have T12 := HT1.out.drewN n
  have T24 := Turns.addl hn H4
  refine ⟨_, results_tmp rfl _ _ _, _, rfl, ?_, _, rfl, T12.chg.size⟩
  exact (T12.trans T24).trans (Turns.right T24.now ht3)
end Go.Proofs.Ytkpgdonpmfebaaa.Bt

/- The law's helpers: same, copied. -/
namespace Go.Proofs.Ytkpgdonpmfebaaa.Bt
open Go.RowKit Go.Hp
attribute [local go_sem] min2_lean min_two max2_lean max_two
set_option linter.unusedSimpArgs false
set_option linter.unusedVariables false
set_option maxRecDepth 100000

theorem Src.at_ {w : World} {A : Option Addr} {n c : Nat} {xs : List UInt8} (h : Src w (.slice A n c) n 1 (xs.map bv)) (k : Nat) (hk : k < n) : ∃ ad, A = some ad ∧ ∃ hx : k < xs.length, w.cell? (ad.add k) = some (bv xs[k]) := by
  have hl : xs.length = n := by have := h.1; simpa using this
  rcases h.2 with ⟨c', h1, h0⟩ | ⟨ad, c', h1, hc⟩
  · omega
  · have hA : A = some ad := by simpa using (Value.slice.inj h1).1
    exact ⟨ad, hA, by omega, hc k _ (by simp [show k < xs.length by omega])⟩
theorem copied_any (A : Option Addr) (n c : Nat) (xs : List UInt8) (w : World) (hx : Src w (.slice A n c) n 1 (xs.map bv)) (hl : n ≤ 140737488355328) :
    Calls Try.prog 70 #[.slice A n c] w fun r w' => r = .returned (.slice (some ⟨w.heap.size, 0, none⟩) n n) ∧ Turns w w' Own.emp (Own.row 5 1 (.slice (some ⟨w.heap.size, 0, none⟩) n n) n (xs.map bv)) := by
  obtain ⟨i0, hi0, hz0, hz1, hz2⟩ := info_parts Try.info5
  have HX := Lib.hid hx
  clear hx
  go_enter Try.func70, Try.ntmps70
  go_wp2_with (first
    | (at_make; refine wpList_make_full _ rfl _ _ 38 rfl 0 5 i0 (.int .u8 0) 1 Try.underlying38 hi0 hz0 hz1 .i64 .i64 n n n rfl rfl rfl rfl (by rw [hz2]; omega) (by simp only [maxLen]; omega) (Nat.zero_le _) ?_; intro w1 ho1 hg1; have HM1 := Lib.hid (Turns.made ho1 hg1); have HO1 := Lib.hid ho1; clear ho1 hg1)
    | (refine wpList_copy_all _ rfl (.tmp 7) (.tmp 8) 38 38 rfl 5 Try.underlying38 (by rw [hi0]; simp [hz1]) _ 0 n _ rfl HO1.out _ (xs.map bv) rfl (Src.keep HX.out (HM1.out.chg.mono (fun _ _ h => h))) (by simp [bv, Value.oneCell']) ?_; intro w2 ho2 hg2; have HT2 := Lib.hid (HM1.out.trans (Turns.row ho2 hg2 (Or.inl rfl))); clear ho2 hg2))
  go_ret
  exact ⟨rfl, HT2.out⟩
theorem same_any (A B : Option Addr) (n m c d : Nat) (xs ys : List UInt8) (w : World) (hx : Src w (.slice A n c) n 1 (xs.map bv)) (hy : Src w (.slice B m d) m 1 (ys.map bv)) (hl : n ≤ 140737488355328) :
    Calls Try.prog 20 #[.slice A n c, .slice B m d] w fun r w' => r = .returned (.bool (decide (xs = ys))) ∧ ∃ k, w.drewN k = w' := by
  have hxl : xs.length = n := by have := hx.1; simpa using this
  have hyl : ys.length = m := by have := hy.1; simpa using this
  by_cases hnm : n = m
  · subst hnm
    have hd : ((n : Int) != (n : Int)) = false := by simp
    have HX := Lib.hid hx
    have HY := Lib.hid hy
    have HXL := Lib.hid hxl
    have HYL := Lib.hid hyl
    clear hx hy hxl hyl
    go_enter Try.func20, Try.ntmps20
    go_wp2_with fail
    go_loopw [5] (fun x5 wr => ∃ k : Nat, x5 = .int .i64 k ∧ k ≤ n ∧ xs.take k = ys.take k ∧ ∃ j, w.drewN j = wr) (fun x5 _ => n - (intOf x5).toNat)
    case atStart => exact ⟨0, rfl, Nat.zero_le _, by simp, 0, rfl⟩
    case round =>
      obtain ⟨k, rfl, hk, ht, j, rfl⟩ := hrel
      have HTK := Lib.hid ht
      clear ht
      by_cases hkn : k < n
      · have hd1 : decide (k < n) = true := by simpa using hkn
        obtain ⟨ad, rfl, hkx, hcx⟩ := Src.at_ HX.out k hkn
        obtain ⟨bd, rfl, hky, hcy⟩ := Src.at_ HY.out k hkn
        obtain ⟨a, ha⟩ : ∃ a, xs[k].toNat = a := ⟨_, rfl⟩
        obtain ⟨b, hb⟩ : ∃ b, ys[k].toNat = b := ⟨_, rfl⟩
        rw [show bv xs[k] = .int .u8 a by rw [← ha]; rfl] at hcx
        rw [show bv ys[k] = .int .u8 b by rw [← hb]; rfl] at hcy
        have HAB : Hid (xs[k] = ys[k] ↔ a = b) := by
          show _ ↔ _
          rw [← ha, ← hb]
          exact ⟨fun h => by rw [h], fun h => UInt8.toNat_inj.1 h⟩
        clear ha hb
        have hcx' : (w.drewN j).cell? (ad.add k) = some (.int .u8 a) := hcx
        have hcy' : (w.drewN j).cell? (bd.add k) = some (.int .u8 b) := hcy
        by_cases hab : a = b
        · have hd2 : ((a : Int) != (b : Int)) = false := by simp [hab]
          go_wp2_with fail
          go_quiet (fail)
          go_wp2_with fail
          go_roundw
          case rel =>
            refine ⟨k + 1, by simp, by omega, ?_, _, rfl⟩
            rw [List.take_add_one, List.take_add_one, HTK.out, List.getElem?_eq_getElem hkx, List.getElem?_eq_getElem hky, HAB.out.2 hab]
          case measure => simp [intOf]; omega
        · have hd2 : ((a : Int) != (b : Int)) = true := by simp; omega
          go_wp2_with fail
          go_quiet (fail)
          go_wp2_with fail
          go_ret
          have hne : xs ≠ ys := fun h => hab (HAB.out.1 (by subst h; rfl))
          exact ⟨by rw [decide_eq_false hne]; rfl, j + nq, by simp⟩
      · have hd1 : decide (k < n) = false := by simpa using hkn
        go_wp2_with fail
        go_ret
        have hkk : k = n := by omega
        have h := HTK.out
        rw [hkk, List.take_of_length_le (by rw [HXL.out]; exact Nat.le_refl _), List.take_of_length_le (by rw [HYL.out]; exact Nat.le_refl _)] at h
        exact ⟨by rw [decide_eq_true h]; rfl, _, rfl⟩
  · have hd : ((n : Int) != (m : Int)) = true := by simp; omega
    have hne : xs ≠ ys := fun h => hnm (by rw [← hxl, ← hyl, h])
    clear hx hy hxl hyl
    go_enter Try.func20, Try.ntmps20
    go_wp2
    go_ret
    exact ⟨by rw [decide_eq_false hne]; rfl, 0, rfl⟩
end Go.Proofs.Ytkpgdonpmfebaaa.Bt

/- A copy into the head of a longer row. Plain. -/
namespace Go.Hp
variable {P : Program} (w : World)
theorem wpList_copy_head {ops : Array Oper} {rest : List Oper} {o : Oper} {a : Act} {Q : Exit → Act → World → Prop} (hgd : o.guard = none) (d s : Operand) (dT sT : TypeId)
    (ho : o.op = .call { callee := .builtin .copy, args := #[d, s], argTypes := #[dT, sT] }) (e : TypeId) (hu : P.underlying dT = some (.slice e)) (hsz : (P.info? e).map (·.size) = some 1)
    (dv : Value) (base n k : Nat) (zs : List Value) (hk : 0 < k) (hd : a.eval d = dv) (hown : w.ownsRow base e 1 dv (n + k) zs) (sv : Value) (cs : List Value) (hs : a.eval s = sv) (hsrc : Src w sv n 1 cs) (h1 : ∀ u ∈ cs, u.oneCell' = true)
    (h : ∀ w', w'.ownsRow base e 1 dv (n + k) (cs ++ zs.drop n) → w.grownBy w' dv.ownBlock → wpList P ops Q rest (a.put o.dst (goInt n)) w') : wpList P ops Q (o :: rest) a w := by
  have hcl : cs.length = n := by simpa using hsrc.1
  have hzl : zs.length = n + k := by simpa using hown.1
  rcases hown.2 with ⟨_, h00⟩ | ⟨g, cap, cur, hv, hb, hg, hnc, hcm, hcs, htake⟩
  · omega
  have hcs' : cur.size = cap := by simpa using hcs
  rcases Nat.eq_zero_or_pos n with h0 | h0
  · subst h0
    obtain ⟨sp, sc, hsv⟩ := hsrc.len
    refine wpList_copy_nothing hgd d s dT sT ho e hu hsz (some ⟨g, 0, none⟩) sp (0 + k) cap 0 sc (hd.trans hv) (hs.trans hsv) (by simp) ?_
    have hcs0 : cs = [] := List.eq_nil_of_length_eq_zero hcl
    subst hcs0
    exact h w (by simpa using hown) (World.grownBy.refl w _)
  · obtain ⟨_, ⟨c, _, h00⟩ | ⟨ad, c, hsv, hc⟩⟩ := hsrc
    · omega
    refine wpList_copy_own hgd d s dT sT ho e hu hsz g 0 (n + k) cap ad n c (hd.trans hv) (hs.trans hsv) cur e hg cs (by rw [hcl]; exact (Nat.min_eq_left (by omega)).symm) hc (by omega) h1 ?_
    rw [hcl]
    refine h _ ⟨by simp [hcl, hzl], Or.inr ⟨g, cap, _, hv, hb, setRow_heap w g cur _ e _ hg, hnc, hcm, ?_, ?_⟩⟩ ⟨rfl, rfl, rfl, by simp [World.setRow], fun k _ hk => setRow_other w g k _ (fun e => hk (by simp [hv, Value.ownBlock, e]))⟩
    · simp only [List.size_toArray, List.length_append, List.length_take, List.length_drop, Array.length_toList, hcl]
      omega
    · simp only [List.take_zero, List.nil_append, Nat.mul_one, Nat.zero_add] at htake ⊢
      rw [← htake, List.take_append, hcl, List.take_of_length_le (by omega), List.drop_take]
end Go.Hp

/- The law's helpers: lent. -/
namespace Go.Proofs.Ytkpgdonpmfebaaa.Bt
open Go.RowKit Go.Hp
attribute [local go_sem] min2_lean min_two max2_lean max_two
set_option linter.unusedSimpArgs false
set_option linter.unusedVariables false
set_option maxRecDepth 100000

/-- A list that was lent: eight bytes behind it, i of them laid down. -/
def lentC (xs : List UInt8) (i : Nat) : List Value := xs.map bv ++ (List.replicate i (.int .u8 165) ++ List.replicate (8 - i) (.int .u8 0))
theorem lentC_set (xs : List UInt8) (i : Nat) (hi : i < 8) : (lentC xs i).set (xs.length + i) (.int .u8 165) = lentC xs (i + 1) := by
  unfold lentC
  rw [List.set_append_right _ _ (by simp), List.length_map, Nat.add_sub_cancel_left, List.set_append_right _ _ (by simp), List.length_replicate, Nat.sub_self]
  rw [show 8 - i = (8 - (i + 1)) + 1 by omega, List.replicate_succ, List.set_cons_zero, List.replicate_succ']
  simp
theorem row_there {w : World} {g n c : Nat} {E : TypeId} {xs : List Value} (h : w.ownsRow 0 E 1 (.slice (some ⟨g, 0, none⟩) n c) n xs) (j : Nat) (hj : j < n) :
    ∃ u, xs[j]? = some u ∧ w.cell? ⟨g, j, none⟩ = some u ∧ w.frozen? ⟨g, j, none⟩ = false := by
  have hl : j < xs.length := by have := h.1; omega
  refine ⟨xs[j], List.getElem?_eq_getElem hl, ?_, ?_⟩
  · have := World.ownsRow.cells (g := g) h rfl j xs[j] (List.getElem?_eq_getElem hl)
    have ha : (⟨g, 0, none⟩ : Addr).add j = ⟨g, j, none⟩ := by unfold Addr.add; split <;> simp_all
    rwa [ha] at this
  · rcases h.2 with ⟨_, h0⟩ | ⟨g', cap, cur, hv, _, hg, _⟩
    · omega
    · have : g = g' := by have := (Value.slice.inj hv).1; simpa using this
      subst this
      simp [World.frozen?, hg]
theorem lent_any (A : Option Addr) (n c : Nat) (xs : List UInt8) (w : World) (hx : Src w (.slice A n c) n 1 (xs.map bv)) (hl : n ≤ 140737488351232) :
    Calls Try.prog 24 #[.slice A n c] w fun r w' => r = .returned (.slice (some ⟨w.heap.size, 0, none⟩) (n + 8) (n + 8)) ∧ Turns w w' Own.emp (Own.row 5 1 (.slice (some ⟨w.heap.size, 0, none⟩) (n + 8) (n + 8)) (n + 8) (lentC xs 8)) := by
  have hxl : xs.length = n := by have := hx.1; simpa using this
  obtain ⟨i0, hi0, hz0, hz1, hz2⟩ := info_parts Try.info5
  have HX := Lib.hid hx
  have HXL := Lib.hid hxl
  clear hx hxl
  obtain ⟨m, hm⟩ : ∃ m, m = n + 8 := ⟨_, rfl⟩
  have HM := Lib.hid hm
  rw [← hm]
  have hw : IntKind.i64.wrap ((n : Int) + 8) = (m : Int) := by rw [IntWalk.i64_in _ (by omega)]; omega
  have hmb : m ≤ 140737488355328 := by omega
  have hnm : n < m := by omega
  clear hm
  go_enter Try.func24, Try.ntmps24
  go_wp2_with (first
    | (at_make; refine wpList_make_full _ rfl _ _ 38 rfl 0 5 i0 (.int .u8 0) 1 Try.underlying38 hi0 hz0 hz1 .i64 .i64 m m m rfl rfl rfl rfl (by rw [hz2]; omega) (by simp only [maxLen]; omega) (Nat.zero_le _) ?_; intro w1 ho1 hg1; have HM1 := Lib.hid (Turns.made ho1 hg1); have HO1 := Lib.hid ho1; clear ho1 hg1)
    | (refine wpList_copy_head _ rfl (.tmp 9) (.tmp 10) 38 38 rfl 5 Try.underlying38 (by rw [hi0]; simp [hz1]) _ 0 n 8 _ (by omega) rfl (by rw [← HM.out]; exact HO1.out) _ (xs.map bv) rfl (Src.keep HX.out (HM1.out.chg.mono (fun _ _ h => h))) (by simp [bv, Value.oneCell']) ?_; intro w2 ho2 hg2; rw [← HM.out] at ho2; have HT2 := Lib.hid (HM1.out.trans (Turns.row ho2 hg2 (Or.inl rfl))); clear ho2 hg2))
  have HT3 : Hid (Turns w w2 Own.emp (Own.row 5 1 (.slice (some ⟨w.heap.size, 0, none⟩) m m) m (lentC xs 0))) := by
    have h := HT2.out
    have e : xs.map bv ++ (madeCells (Value.int IntKind.u8 0).cells (m * 1)).toList.drop n = lentC xs 0 := by
      rw [show (Value.int IntKind.u8 0).cells = #[Value.int IntKind.u8 0] from rfl, toList_madeCells_one, HM.out]
      unfold lentC
      rw [List.drop_replicate, show (n + 8) * 1 - n = 8 by omega]
      simp
    rw [e] at h
    exact h
  clear HT2 HO1 HM1
  go_loopw [4] (fun x4 wr => ∃ i : Nat, x4 = .int .i64 ((n + i : Nat) : Int) ∧ i ≤ 8 ∧ Turns w wr Own.emp (Own.row 5 1 (.slice (some ⟨w.heap.size, 0, none⟩) m m) m (lentC xs i))) (fun x4 _ => n + 8 - (intOf x4).toNat)
  case atStart => exact ⟨0, rfl, by omega, HT3.out⟩
  case round =>
    obtain ⟨i, rfl, hi, ht⟩ := hrel
    have HT := Lib.hid ht
    clear ht
    obtain ⟨j, hj⟩ : ∃ j, j = n + i := ⟨_, rfl⟩
    have HJ := Lib.hid hj
    rw [← hj]
    clear hj
    by_cases h8 : i < 8
    · have hjm : j < m := by have := HM.out; have := HJ.out; omega
      have hd : decide (j < m) = true := by simpa using hjm
      obtain ⟨u, _, hc, hf⟩ := row_there HT.out.now j hjm
      go_wp2_with fail
      go_roundw
      case rel =>
        refine ⟨i + 1, by have := HJ.out; rw [this]; simp; omega, by omega, ?_⟩
        have h := HT.out.trans (Turns.row_set HT.out.now j (.int .u8 165))
        have e := lentC_set xs i h8
        rw [HXL.out, ← HJ.out] at e
        rw [e] at h
        exact h
      case measure => have := HJ.out; have := HM.out; simp [intOf]; omega
    · have hjm : j = m := by have := HM.out; have := HJ.out; omega
      have hd : decide (j < m) = false := by simp; omega
      go_wp2_with fail
      go_ret
      have h88 : i = 8 := by omega
      subst h88
      exact ⟨rfl, HT.out⟩
end Go.Proofs.Ytkpgdonpmfebaaa.Bt

/- The law's kept lists of bytes: keep, holds, spoil. -/
namespace Go.Proofs.Ytkpgdonpmfebaaa.Bt.Kb
open Go.RowKit Go.Hp
set_option linter.unusedSimpArgs false
set_option linter.unusedVariables false
set_option maxRecDepth 100000
attribute [local go_sem] min2_lean min_two max2_lean max_two
theorem Try.info38 : (Try.prog.info? 38).map (fun i => (i.zero, i.size, i.bytes)) = some (some (.slice none 0 0), 1, 24) := by kernel_rfl
/-- A list of what may be compared with itself. -/
def Gd (xs : List Value) : Prop := ∃ bs : List UInt8, xs = bs.map bv
theorem Gd.one {xs : List Value} (h : Gd xs) : ∀ u ∈ xs, u.oneCell' = true := by
  obtain ⟨zs, rfl⟩ := h
  simp [bv, Value.oneCell']
theorem Src.keepC {w w' : World} {v : Value} {n : Nat} {xs : List Value} (h : Src w v n 1 xs) (hb : ∀ b, v.ownBlock = some b → b < w.heap.size) (hc : Chg (fun _ => False) w w') : Src w' v n 1 xs :=
  Src.stay h fun b hf => hc.block b (hb b hf) (fun h => h)
theorem copied_src (A : Option Addr) (n c : Nat) (xs : List Value) (w : World) (hs : Src w (.slice A n c) n 1 xs) (hb : ∀ b, (Value.slice A n c).ownBlock = some b → b < w.heap.size) (hg : Gd xs) (hn : n ≤ 140737488355328) :
    Calls Try.prog 70 #[.slice A n c] w fun e w' => ∃ X cx, e = .returned (.slice X n cx) ∧ Turns w w' Hp.Own.emp (Hp.Own.row 5 1 (.slice X n cx) n xs) := by
  obtain ⟨bs, rfl⟩ := hg
  refine (copied_any A n c bs w hs (by omega)).mono ?_
  rintro e w' ⟨rfl, ht⟩
  exact ⟨_, _, rfl, ht⟩
theorem same_src (A B : Option Addr) (n c d : Nat) (xs : List Value) (w : World) (hs : Src w (.slice A n c) n 1 xs) (ht : Src w (.slice B n d) n 1 xs) (hg : Gd xs) (hn : n ≤ 140737488355328) :
    Calls Try.prog 20 #[.slice A n c, .slice B n d] w fun e w' => e = .returned (.bool true) ∧ ∃ q, w.drewN q = w' := by
  obtain ⟨bs, rfl⟩ := hg
  refine (same_any A B n n c d bs bs w hs ht (by omega)).mono ?_
  rintro e w' ⟨rfl, q, hq⟩
  exact ⟨by simp, q, hq⟩
abbrev own (k : KS) (N d : Nat) : Hp.Own := k.own 34 38 5 N d
def Okk (k : KS) (M : Nat) : Prop := ∀ i, i < M → Gd (k.xs i) ∧ k.len i ≤ 140737488351300
theorem holds_any (k : KS) (N d : Nat) (w : World) (h : (own k N d).holds w) (hd : d ≤ N) (hg : Okk k (N + d)) (hN : N + d ≤ 7036874417562) :
    Calls Try.prog 22 #[.pointer (some ⟨k.g, 0, none⟩)] w fun e w' => e = .returned (.bool true) ∧ Chg (fun _ => False) w w' := by
  obtain ⟨M, hM⟩ : ∃ M, N + d = M := ⟨_, rfl⟩
  obtain ⟨Ao, co, hov⟩ := row_slice (KS.outs h)
  obtain ⟨Aw, cw, hwv⟩ := row_slice (KS.wants h)
  have HREAD := Lib.hid (fun W (hc : Chg (fun _ => False) w W) i (hi : i < N + d) => KS.reads (Own.fam_chg h hc) hd hi)
  have HAT := Lib.hid (fun W (hc : Chg (fun _ => False) w W) i (hi : i < N + d) => KS.at_ (Own.fam_chg h hc) hi)
  have HBOX := Lib.hid (fun W (hc : Chg (fun _ => False) w W) => KS.box (Own.fam_chg h hc))
  have HG := Lib.hid hg
  rw [hM] at HREAD HAT HG hN hov hwv
  clear hg h hM
  go_enter Try.func22, Try.ntmps22
  go_wp2_with fail
  go_loopw [3] (fun x3 wr => ∃ i : Nat, x3 = .int .i64 i ∧ i ≤ M ∧ Chg (fun _ => False) w wr) (fun x3 _ => M - (intOf x3).toNat)
  case atStart => exact ⟨0, rfl, Nat.zero_le _, Chg.refl _ _⟩
  case round =>
    obtain ⟨i, rfl, hin, hc⟩ := hrel
    have HC := Lib.hid hc
    have b0 := (HBOX.out _ hc).cell 0
    have b1 := (HBOX.out _ hc).cell 1
    rw [hov, hwv] at b0 b1
    simp only [List.getElem?_toArray, List.getElem?_cons_succ, List.getElem?_cons_zero] at b0 b1
    clear hc
    by_cases hlt : i < M
    · have hd : decide ((i : Int) < (M : Int)) = true := by simp; omega
      have hd' : decide (i < M) = true := by simp; omega
      obtain ⟨go, co', gw, cw', e1, e2, c0, c1⟩ := HAT.out _ HC.out i hlt
      rw [hov] at e1
      rw [hwv] at e2
      obtain ⟨rfl, _, rfl⟩ := Value.slice.inj e1
      obtain ⟨rfl, _, rfl⟩ := Value.slice.inj e2
      obtain ⟨s1, s2⟩ := HREAD.out _ HC.out i hlt
      obtain ⟨X, cx, hx⟩ := s1.len
      obtain ⟨Y, cy, hy⟩ := s2.len
      rw [hx] at c0
      rw [hy] at c1
      obtain ⟨hg1, hg2⟩ := HG.out i hlt
      have HSA := Lib.hid (fun W (hc : Chg (fun _ => False) wr W) => (show Src W (.slice X (k.len i) cx) (k.len i) 1 (k.xs i) ∧ Src W (.slice Y (k.len i) cy) (k.len i) 1 (k.xs i) from by rw [← hx, ← hy]; exact HREAD.out _ (HC.out.trans hc) i hlt))
      have HGI := Lib.hid hg1
      generalize k.len i = n at *
      generalize k.xs i = xs at *
      clear s1 s2 e1 e2 hx hy hg1
      go_wp2_with fail
      go_region_held3 (fun w' => w'.cell? ⟨k.g, 0, none⟩ = some (.slice (some ⟨go, 0, none⟩) M co) ∧ w'.cell? ⟨k.g, 1, none⟩ = some (.slice (some ⟨gw, 0, none⟩) M cw) ∧ w'.cell? ⟨go, i, none⟩ = some (.slice X n cx) ∧ w'.cell? ⟨gw, i, none⟩ = some (.slice Y n cy)) (go_keep)
        (first
          | (go_at_call 20; (with_reducible refine (same_src X Y n cx cy xs _ ?_ ?_ HGI.out (by omega)).mono ?_); exact (HSA.out _ ((Chg.refl _ _).drewN _)).1; exact (HSA.out _ ((Chg.refl _ _).drewN _)).2; rintro r w3 ⟨rfl, q3, rfl⟩))
      go_wp2_with fail
      go_roundw
      case rel => exact ⟨i + 1, by simp, by omega, HC.out.drewN _⟩
      case measure => simp [intOf]; omega
    · have hd : decide ((i : Int) < (M : Int)) = false := by simp; omega
      have hd' : decide (i < M) = false := by simp; omega
      go_wp2_with fail
      go_ret
      exact ⟨rfl, HC.out⟩
theorem keep_any (k : KS) (N : Nat) (A : Option Addr) (n c : Nat) (xs : List Value) (w : World) (h : (Hp.Own.both (own k N 0) (Hp.Own.row 5 1 (.slice A n c) n xs)).holds w) (hg : Gd xs) (hn : n ≤ 140737488351300) (hN : N ≤ 3518437208781) :
    Calls Try.prog 21 #[.pointer (some ⟨k.g, 0, none⟩), .slice A n c] w fun e w' => e = .returned (.tuple #[]) ∧ ∃ ov wv y, Turns w w' (Hp.Own.both (own k N 0) (Hp.Own.row 5 1 (.slice A n c) n xs)) (own (k.add N ov wv (.slice A n c) y n xs) (N + 1) 0) := by
  obtain ⟨is, his, hzas, hzbs, hzcs⟩ := info_parts Try.info38
  obtain ⟨Ao, co, hov⟩ := row_slice (KS.outs h.1)
  obtain ⟨Aw, cw, hwv⟩ := row_slice (KS.wants h.1)
  have hN0 : k.fam 34 38 5 N 0 (.o N) = Hp.Own.emp := by simp [KS.fam]
  have hT0 := Own.fam_take (F := k.fam 34 38 5 N 0) (.o N) hN0 h
  have b0 := (KS.box h.1).cell 0
  have b1 := (KS.box h.1).cell 1
  have f0 := (KS.box h.1).frozen 0
  rw [hov, Nat.add_zero] at b0
  rw [hwv, Nat.add_zero] at b1
  simp only [List.getElem?_toArray, List.getElem?_cons_succ, List.getElem?_cons_zero] at b0 b1
  have HO := KS.outs h.1
  rw [hov, Nat.add_zero] at HO
  have HOH := Lib.hid HO
  have HT0 := Lib.hid hT0
  have HG := Lib.hid hg
  have HOV := Lib.hid hov
  have HWV := Lib.hid hwv
  clear hg h HO hT0 hN0
  go_enter Try.func21, Try.ntmps21
  go_wp2_with (first
    | ((at_builtin; refine wpList_app1 _ rfl (.tmp 8) (.tmp 10) 32 rfl 38 is (.slice none 0 0) 1 24 Try.underlying32 his hzas hzbs hzcs rfl (by decide) (.slice Ao N co) N ((List.range N).map k.out) rfl _ _ _ rfl (by first | rfl | simp) HOH.out rfl (by simp [Value.oneCell']) (by simp only [maxLen]; omega) (by omega) ?_; intro g4 c4 w4 hc4 ht4; have HT4 := Lib.hid ht4; clear ht4); have HF4 := Lib.hid (HT0.out.trans (Turns.famE HT0.out.now .outs (by show Hp.Own.row _ _ k.ov (N + 0) _ = _; rw [HOV.out, Nat.add_zero]) HT4.out)); have hB4 : Blk w4 k.g #[k.ov, k.wv] 34 := HF4.out.now.1 .box; have hb0 := hB4.cell 0; have hf0 := hB4.frozen 0; rw [HOV.out] at hb0; simp only [List.getElem?_toArray, List.getElem?_cons_succ, List.getElem?_cons_zero] at hb0; have HB4 := Lib.hid hB4; clear hB4))
  have HF5 := Lib.hid (HF4.out.trans (Turns.famE HF4.out.now .box (O := Hp.Own.blk k.g #[k.ov, k.wv] 34) rfl (Turns.blk_set HB4.out 0 (.slice (some ⟨g4, 0, none⟩) (N + 1) c4))))
  obtain ⟨W5, hW5⟩ : ∃ W, W = w4.setCell ⟨k.g, 0, none⟩ (.slice (some ⟨g4, 0, none⟩) (N + 1) c4) := ⟨_, rfl⟩
  rw [← hW5] at HF5 ⊢
  clear hW5 hb0 hf0 b0 b1 f0
  have hB5 : Blk W5 k.g #[.slice (some ⟨g4, 0, none⟩) (N + 1) c4, k.wv] 34 := HF5.out.now.1 .box
  have hb1 := hB5.cell 1
  rw [HWV.out, Nat.add_zero] at hb1
  simp only [List.getElem?_toArray, List.getElem?_cons_succ, List.getElem?_cons_zero] at hb1
  have hl5 : (Hp.Own.row 5 1 (.slice A n c) n xs).holds W5 := by
    have := HF5.out.now.1 (.o N)
    simpa [upd] using this
  have HL5 := Lib.hid hl5
  have HCO := Lib.hid (fun W (hc : Chg (fun _ => False) W5 W) => copied_src A n c xs W (Src.of_own (show W.ownsRow 0 5 1 (.slice A n c) n xs from Own.chg HL5.out hc (fun _ _ h => h))) (fun b hb => Nat.lt_of_lt_of_le (Own.lt _ HL5.out b hb) hc.size) HG.out (by omega))
  clear hl5 hB5
  go_region_law (first
      | (go_simp; go_at_call 70; (with_reducible refine (HCO.out _ ?_).mono ?_); exact (Chg.refl _ _).drew; rintro r w6 ⟨Y, cy, rfl, ht6⟩; have HF6 := Lib.hid (HF5.out.trans (Turns.famE HF5.out.now (.c N) (O := Hp.Own.emp) (by simp [upd, KS.fam]) ht6.drewl)); clear ht6; have HWO := Lib.hid (show w6.ownsRow 0 38 1 (.slice Aw N cw) N ((List.range N).map k.want) from (by have := HF6.out.now.1 .wants; simp only [upd, KS.fam, reduceCtorEq, if_false, Nat.add_zero] at this; rw [HWV.out, Nat.add_zero] at this; exact this)); have hB6 : Blk w6 k.g #[.slice (some ⟨g4, 0, none⟩) (N + 1) c4, k.wv] 34 := HF6.out.now.1 .box; have hl6 := hB6.lt; have hb6 := hB6.cell 1; have hf6 := hB6.frozen 1; rw [HWV.out, Nat.add_zero] at hb6; simp only [List.getElem?_toArray, List.getElem?_cons_succ, List.getElem?_cons_zero] at hb6; clear hB6)
      | ((refine step_app1 _ rfl (.tmp 18) (.tmp 21) 32 rfl 38 is (.slice none 0 0) 24 Try.underlying32 his hzas hzbs hzcs rfl (.slice Aw N cw) N ((List.range N).map k.want) rfl _ _ _ rfl (by first | rfl | simp) HWO.out (by simp [Value.oneCell']) (by simp only [maxLen]; omega) (by omega) ?_; intro g7 c7 w7 hc7 ht7; have HT7 := Lib.hid ht7; clear ht7); have HF7 := Lib.hid (HF6.out.trans (Turns.famE HF6.out.now .wants (by show Hp.Own.row _ _ k.wv (N + 0) _ = _; rw [HWV.out, Nat.add_zero]) HT7.out)); have HB7 := Lib.hid (show Blk w7 k.g #[.slice (some ⟨g4, 0, none⟩) (N + 1) c4, k.wv] 34 from HF7.out.now.1 .box); have hl7 := HB7.out.lt; have hb7 := HB7.out.cell 1; have hf7 := HB7.out.frozen 1; rw [HWV.out, Nat.add_zero] at hb7; simp only [List.getElem?_toArray, List.getElem?_cons_succ, List.getElem?_cons_zero] at hb7))
  all_goals
    refine bodyPost_end (results_none rfl _ _ _) rfl ?_
    exact ⟨rfl, _, _, .slice Y n cy, (HF7.out.trans (Turns.famE HF7.out.now .box (O := Hp.Own.blk k.g #[.slice (some ⟨g4, 0, none⟩) (N + 1) c4, k.wv] 34) rfl (Turns.blk_set HB7.out 1 (.slice (some ⟨g7, 0, none⟩) (N + 1) c7)))).to (Own.fam_as (KS.kept k _ _ _ N _ _ _ _ n xs _))⟩
end Go.Proofs.Ytkpgdonpmfebaaa.Bt.Kb

/- The law's items: right. -/
namespace Go.Proofs.Ytkpgdonpmfebaaa.Bt
open Go.RowKit Go.Hp
attribute [local go_sem] min2_lean min_two max2_lean max_two
set_option linter.unusedSimpArgs false
set_option linter.unusedVariables false
set_option maxRecDepth 100000

structure ItA where
  kind : Int
  n : Int
  v : Bool
  s : ByteArray
def ItA.cells (x : ItA) : Array Value := #[.int .i64 x.kind, .int .i64 x.n, .bool x.v, .string x.s]
def ItA.right (x : ItA) : ItA := if x.kind < 1 ∨ 5 < x.kind then { x with kind := 3 } else if x.kind = 1 ∧ x.n < 0 then { x with n := -(x.n + 1) } else x
theorem right_any (x : ItA) (w : World) (hn0 : -9223372036854775808 ≤ x.n) (hn1 : x.n ≤ 9223372036854775807) :
    Calls Try.prog 33 #[.agg x.cells] w fun r w' => r = .returned (.agg x.right.cells) ∧ Chg (fun _ => False) w w' := by
  obtain ⟨k, n, v, s⟩ := x
  simp only [] at hn0 hn1
  by_cases h1 : k < 1 ∨ 5 < k
  · have hr : (ItA.mk k n v s).right = ItA.mk 3 n v s := by rw [ItA.right, if_pos h1]
    rw [hr]
    clear hr
    have hd : (decide (k < 1) = true) ∨ (decide (k < 1) = false ∧ decide (5 < k) = true) := by
      by_cases h : k < 1
      · left; simpa using h
      · right; exact ⟨by simpa using h, by simp; omega⟩
    rcases hd with hd | ⟨hd, hd2⟩
    all_goals
      simp only [ItA.cells]
      go_enter Try.func33, Try.ntmps33
      go_wp2
      refine bodyPost_ret (v := .agg #[.int .i64 3, .int .i64 n, .bool v, .string s]) (by simp [results, Try.results33, go_sem]) rfl ⟨rfl, ?_⟩
      repeat (first | (with_reducible exact Chg.refl _ _) | (with_reducible refine Chg.set ?_ (Or.inl (by simp)) _) | (with_reducible refine Chg.alloc ?_ _) | (with_reducible refine Chg.drew ?_))
  · by_cases h2 : k = 1 ∧ n < 0
    · have hr : (ItA.mk k n v s).right = ItA.mk k (-(n + 1)) v s := by rw [ItA.right, if_neg h1, if_pos h2]
      rw [hr]
      clear hr
      obtain ⟨rfl, h3⟩ := h2
      have hd2 : decide (n < 0) = true := by simpa using h3
      have hw1 : IntKind.i64.wrap (n + 1) = n + 1 := IntWalk.i64_in _ (by omega)
      have hw2 : IntKind.i64.wrap (-(n + 1)) = -(n + 1) := IntWalk.i64_in _ (by omega)
      simp only [ItA.cells]
      go_enter Try.func33, Try.ntmps33
      go_wp2
      refine bodyPost_ret (v := .agg #[.int .i64 1, .int .i64 (-(n + 1)), .bool v, .string s]) (by simp [results, Try.results33, go_sem]) rfl ⟨rfl, ?_⟩
      repeat (first | (with_reducible exact Chg.refl _ _) | (with_reducible refine Chg.set ?_ (Or.inl (by simp)) _) | (with_reducible refine Chg.alloc ?_ _) | (with_reducible refine Chg.drew ?_))
    · have hr : (ItA.mk k n v s).right = ItA.mk k n v s := by rw [ItA.right, if_neg h1, if_neg h2]
      rw [hr]
      clear hr
      have hd : decide (k < 1) = false := by simp; omega
      have hd1 : decide (5 < k) = false := by simp; omega
      have hd2 : ((k == 1) = false ∧ True) ∨ ((k == 1) = true ∧ decide (n < 0) = false) := by
        by_cases h : k = 1
        · right; exact ⟨by simpa using h, by simp; omega⟩
        · left; exact ⟨by simpa using h, trivial⟩
      rcases hd2 with ⟨h3, h4⟩ | ⟨h3, h4⟩
      all_goals
        simp only [ItA.cells]
        go_enter Try.func33, Try.ntmps33
        go_wp2
        refine bodyPost_ret (v := .agg #[.int .i64 k, .int .i64 n, .bool v, .string s]) (by simp [results, Try.results33, go_sem]) rfl ⟨rfl, ?_⟩
        repeat (first | (with_reducible exact Chg.refl _ _) | (with_reducible refine Chg.set ?_ (Or.inl (by simp)) _) | (with_reducible refine Chg.alloc ?_ _) | (with_reducible refine Chg.drew ?_))
end Go.Proofs.Ytkpgdonpmfebaaa.Bt

/- What an argument that can be read holds, type by type. Plain lemmas on readings. -/
namespace Go.Hp
open Go.RowKit Go.Deep Go.ChangeShapes Go.WideShapes

/-- These cells can be read as a value of type T, and nothing in it takes more than fits. -/
def Rdg (P : Program) (w : World) (T : TypeId) (cs : List Value) : Prop :=
  ∃ (H : Type) (enc : TypeId × Value → H) (fuel : Nat) (x : DataW H × List MemPlace), DataW.trod enc P w 0 (fun _ => true) true fuel T cs = some x ∧ ∀ n ∈ x.1.weights P T, n ≤ reachBytes

section
variable {P : Program} {w : World} {T : TypeId} {cs : List Value}
theorem ArgOk.rdg {v : Value} (h : ArgOk P w T v) : Rdg P w T v.cells.toList := by
  obtain ⟨H, enc, d, p, base, _, ⟨fuel, hf⟩, hw⟩ := h
  exact ⟨H, enc, fuel, (d, p), hf, fun n hn => by simpa using List.all_eq_true.1 hw n hn⟩
theorem ArgOk.slice {v : Value} {e : TypeId} (hu : P.underlying T = some (.slice e)) (h : ArgOk P w T v) : ∃ A len cap, v = .slice A len cap := by
  obtain ⟨H, enc, d, p, base, hok, _⟩ := h
  exact okWide_slice hu hok
theorem Rdg.int {k : IntKind} (hu : P.underlying T = some (.int k)) (h : Rdg P w T cs) : ∃ n, cs = [.int k n] ∧ (Lit.int k n).wf = true := by
  obtain ⟨H, enc, fuel, x, hf, _⟩ := h
  cases fuel with
  | zero => simp [DataW.trod] at hf
  | succ n =>
    unfold DataW.trod at hf
    rw [hu] at hf
    split at hf <;> simp_all
theorem Rdg.bool (hu : P.underlying T = some .bool) (h : Rdg P w T cs) : ∃ b, cs = [.bool b] := by
  obtain ⟨H, enc, fuel, x, hf, _⟩ := h
  cases fuel with
  | zero => simp [DataW.trod] at hf
  | succ n =>
    unfold DataW.trod at hf
    rw [hu] at hf
    split at hf <;> simp_all
theorem Rdg.float {k : FloatKind} (hu : P.underlying T = some (.float k)) (h : Rdg P w T cs) : ∃ b, cs = [.float k b] ∧ (Lit.float k b).wf = true := by
  obtain ⟨H, enc, fuel, x, hf, _⟩ := h
  cases fuel with
  | zero => simp [DataW.trod] at hf
  | succ n =>
    unfold DataW.trod at hf
    rw [hu] at hf
    split at hf <;> simp_all
theorem Rdg.string (hu : P.underlying T = some .string) (h : Rdg P w T cs) : ∃ s : ByteArray, cs = [.string s] ∧ s.size ≤ 140737488351232 := by
  obtain ⟨H, enc, fuel, x, hf, hw⟩ := h
  cases fuel with
  | zero => simp [DataW.trod] at hf
  | succ n =>
    unfold DataW.trod at hf
    rw [hu] at hf
    split at hf <;> simp_all
    obtain ⟨_, rfl⟩ := hf
    have := hw _ (by simp [DataW.weights]; rfl)
    simpa [reachBytes] using this
theorem Rdg.struct {fs : Array Field} (hu : P.underlying T = some (.struct fs)) (h : Rdg P w T cs) :
    cs.length = P.cellsOf T ∧ ∀ (i : Nat) (f : Field), fs[i]? = some f → Rdg P w f.type ((cs.drop f.offset).take (P.cellsOf f.type)) := by
  obtain ⟨H, enc, fuel, x, hf, hw⟩ := h
  obtain ⟨xs, n, _, rfl, hl, hlen, hg⟩ := DataW.trod_struct hu hf
  refine ⟨hl, fun i f hi => ?_⟩
  have hil : i < fs.size := (Array.getElem?_eq_some_iff.1 hi).1
  have hx : xs[i]? = some (xs[i]'(by omega)) := List.getElem?_eq_getElem (by omega)
  refine ⟨H, enc, n, xs[i]'(by omega), (hg i f hi).trans hx, fun m hm => hw m ?_⟩
  simp only [DataW.weights, hu]
  exact DataW.weights_mem_each (j := i) (t := f.type) (d := (xs[i]'(by omega)).1) (by simp [hi]) (by simp [hx]) m hm
theorem mem_weightsAll {H : Type} {e : TypeId} {l : List (DataW H)} {d : DataW H} (hd : d ∈ l) {n : Nat} (hn : n ∈ d.weights P e) : n ∈ DataW.weightsAll P e l := by
  induction l with
  | nil => cases hd
  | cons a r ih =>
    simp only [DataW.weightsAll, List.mem_append]
    rcases List.mem_cons.1 hd with rfl | h
    · exact .inl hn
    · exact .inr (ih h)
theorem addr_add_add (a : Addr) (i j : Nat) : (a.add i).add j = a.add (i + j) := by
  unfold Addr.add
  by_cases hi : i = 0 <;> by_cases hj : j = 0 <;> simp [hi, hj, Nat.add_assoc]
theorem Rdg.slice {e : TypeId} (hu : P.underlying T = some (.slice e)) (hs : 0 < P.cellsOf e) (h : Rdg P w T cs) :
    cs = [.slice none 0 0] ∨ ∃ (a : Addr) (len cap : Nat), cs = [.slice (some a) len cap] ∧ len ≤ cap ∧ cap ≤ maxLen ∧ cap * P.bytesOf e ≤ 140737488351232 ∧
      ∀ i, i < cap → ∃ (b off : Nat) (cs' : List Value), a = ⟨b, off, none⟩ ∧ b < w.heap.size ∧ cs'.length = P.cellsOf e ∧ Rdg P w e cs' ∧ ∀ j u, cs'[j]? = some u → w.cell? ⟨b, off + i * P.cellsOf e + j, none⟩ = some u := by
  obtain ⟨H, enc, fuel, x, hf, hw⟩ := h
  rcases open_slice hu hf with ⟨h0, _⟩ | ⟨a, len, cap, m, n, D, Pl, hcs, hb, hl, hm, hmm, hx, hi⟩
  · exact .inl h0
  · simp only [if_true] at hmm
    subst hmm
    refine .inr ⟨a, len, m, hcs, hl, hm, ?_, fun i hii => ?_⟩
    · have h1 : (len + (m - len)) * P.bytesOf e ∈ x.1.weights P T := by
        rw [hx]
        simp [DataW.weights, hu]
      have h2 := hw _ h1
      rw [show len + (m - len) = m by omega] at h2
      simpa [reachBytes] using h2
    · obtain ⟨cs', hc, ht⟩ := hi i hii
      obtain ⟨_, hcl, hat⟩ := World.cells?_some hc
      have hne : ∃ u, w.cell? ((a.add (i * P.cellsOf e)).add 0) = some u := ⟨cs'[0]'(by omega), by rw [hat 0 hs]; exact List.getElem?_eq_getElem (by omega)⟩
      obtain ⟨u, hu0⟩ := hne
      obtain ⟨b, off, sp⟩ := a
      have hadd0 : ∀ k : Nat, (⟨b, off, none⟩ : Addr).add k = ⟨b, off + k, none⟩ := by
        intro k
        unfold Addr.add
        split
        · subst_vars; rfl
        · rfl
      have hblk : b < w.heap.size := by
        have hbk : ((⟨b, off, sp⟩ : Addr).add (i * P.cellsOf e)).add 0 = (⟨b, off, sp⟩ : Addr).add (i * P.cellsOf e) := by rw [addr_add_add, Nat.add_zero]
        rw [hbk] at hu0
        have := World.block_lt_of_cell? w _ hu0
        simpa [Addr.add] using (show ((⟨b, off, sp⟩ : Addr).add (i * P.cellsOf e)).block < w.heap.size from this) |> fun h => by
          unfold Addr.add at h
          split at h <;> exact h
      have hsp : sp = none := by
        have h0 := hi 0 (by omega)
        obtain ⟨cs0, hc0, _⟩ := h0
        obtain ⟨_, hcl0, hat0⟩ := World.cells?_some hc0
        have := hat0 0 hs
        rw [List.getElem?_eq_getElem (by omega), Nat.zero_mul] at this
        simp only [Addr.add, if_true] at this
        cases sp with
        | none => rfl
        | some s =>
          unfold World.cell? at this
          split at this <;> simp at this
      subst hsp
      refine ⟨b, off, cs', rfl, hblk, hcl, ⟨H, enc, n, _, ht, fun k hk => hw k ?_⟩, fun j u hj => ?_⟩
      · rw [hx]
        simp only [DataW.weights, hu, List.mem_cons, List.mem_append]
        by_cases hil : i < len
        · exact .inr (.inl (mem_weightsAll (List.mem_map.2 ⟨i, by simpa using hil, rfl⟩) hk))
        · exact .inr (.inr (mem_weightsAll (List.mem_map.2 ⟨i - len, by simp; omega, by rw [show len + (i - len) = i by omega]⟩) hk))
      · have hjl : j < P.cellsOf e := by rw [← hcl]; exact (List.getElem?_eq_some_iff.1 hj).1
        have := hat j hjl
        rw [addr_add_add, hadd0, ← Nat.add_assoc] at this
        rw [this, hj]
end
end Go.Hp

/- The law's items, out of an argument. -/
namespace Go.Proofs.Ytkpgdonpmfebaaa.Bt
open Go.RowKit Go.Hp
set_option linter.unusedSimpArgs false
set_option linter.unusedVariables false
set_option maxRecDepth 100000
theorem Try.cells36 : Try.prog.cellsOf 36 = 4 := by kernel_rfl
theorem Try.cells3 : Try.prog.cellsOf 3 = 1 := by kernel_rfl
theorem Try.cells4 : Try.prog.cellsOf 4 = 1 := by kernel_rfl
theorem Try.cells9 : Try.prog.cellsOf 9 = 1 := by kernel_rfl
theorem Try.bytes36 : Try.prog.bytesOf 36 = 40 := by kernel_rfl
/-- An item as Go can hold it. -/
def ItA.fits (x : ItA) : Prop := (-9223372036854775808 ≤ x.kind ∧ x.kind ≤ 9223372036854775807) ∧ (-9223372036854775808 ≤ x.n ∧ x.n ≤ 9223372036854775807) ∧ x.s.size ≤ 140737488351232
theorem item_open {w : World} {cs : List Value} (h : Rdg Try.prog w 36 cs) : ∃ x : ItA, cs = x.cells.toList ∧ x.fits := by
  obtain ⟨hl, hf⟩ := h.struct Try.underlying36
  rw [Try.cells36] at hl
  match cs, hl with
  | [c0, c1, c2, c3], _ =>
    obtain ⟨k, hk, wk⟩ := (hf 0 _ rfl).int Try.underlying3
    obtain ⟨n, hn, wn⟩ := (hf 1 _ rfl).int Try.underlying3
    obtain ⟨b, hb⟩ := (hf 2 _ rfl).bool Try.underlying4
    obtain ⟨s, hs, ws⟩ := (hf 3 _ rfl).string Try.underlying9
    simp [Try.cells3, Try.cells4, Try.cells9] at hk hn hb hs
    simp [Lit.wf, IntKind.min, IntKind.max, IntKind.signed, IntKind.bits] at wk wn
    exact ⟨⟨k, n, b, s⟩, by rw [hk, hn, hb, hs]; rfl, ⟨by simp only []; omega, by simp only []; omega⟩, by simp only []; omega, ws⟩
/-- Items in memory. -/
def ItemsAt (w : World) (A : Option Addr) (its : List ItA) : Prop :=
  ∀ i (h : i < its.length), its[i].fits ∧ ∃ b off, A = some ⟨b, off, none⟩ ∧ b < w.heap.size ∧ ∀ j u, its[i].cells.toList[j]? = some u → w.cell? ⟨b, off + i * 4 + j, none⟩ = some u
theorem items_open {w : World} {v : Value} (h : ArgOk Try.prog w 23 v) : ∃ A its cap, v = .slice A (List.length its) cap ∧ ItemsAt w A its ∧ its.length * 40 ≤ 140737488351232 := by
  obtain ⟨A, len, cap, rfl⟩ := h.slice Try.underlying23
  rcases h.rdg.slice Try.underlying23 (by rw [Try.cells36]; decide) with h0 | ⟨a, l, c, hc, hl, _, hb, hi⟩
  · simp [Value.cells] at h0
    obtain ⟨rfl, rfl, rfl⟩ := h0
    exact ⟨none, [], 0, rfl, fun i hi => absurd hi (by simp), by simp⟩
  · simp [Value.cells] at hc
    obtain ⟨rfl, rfl, rfl⟩ := hc
    rw [Try.bytes36] at hb
    have hx : ∀ i, ∃ x : ItA, i < len → x.fits ∧ ∃ b off, a = ⟨b, off, none⟩ ∧ b < w.heap.size ∧ ∀ j u, x.cells.toList[j]? = some u → w.cell? ⟨b, off + i * 4 + j, none⟩ = some u := by
      intro i
      by_cases hil : i < len
      · obtain ⟨b, off, cs', ha, hbl, _, hr, hcell⟩ := hi i (by omega)
        obtain ⟨x, rfl, hf⟩ := item_open hr
        rw [Try.cells36] at hcell
        exact ⟨x, fun _ => ⟨hf, b, off, ha, hbl, hcell⟩⟩
      · exact ⟨⟨0, 0, false, ByteArray.empty⟩, fun h => absurd h hil⟩
    obtain ⟨f, hf⟩ := Classical.axiomOfChoice hx
    refine ⟨some a, (List.range len).map f, cap, by simp, fun i hil => ?_, by simp; omega⟩
    have hil2 : i < len := by simpa using hil
    obtain ⟨h1, b, off, h2, h3, h4⟩ := hf i hil2
    have e : ((List.range len).map f)[i] = f i := by simp
    rw [e]
    exact ⟨h1, b, off, by rw [h2], h3, h4⟩
end Go.Proofs.Ytkpgdonpmfebaaa.Bt

/- The law's bound: beyond. -/
namespace Go.Proofs.Ytkpgdonpmfebaaa.Bt
open Go.RowKit Go.Hp
attribute [local go_sem] min2_lean min_two max2_lean max_two
set_option linter.unusedSimpArgs false
set_option linter.unusedVariables false
set_option maxRecDepth 100000
def tot (its : List ItA) : Nat := (its.map fun x => 1 + x.s.size).sum
theorem tot_take (its : List ItA) (i : Nat) (h : i < its.length) : tot (its.take (i + 1)) = tot (its.take i) + (1 + its[i].s.size) := by
  unfold tot
  rw [List.take_add_one, List.getElem?_eq_getElem h, List.map_append, List.sum_append]
  simp only [Option.toList_some, List.map_cons, List.map_nil, List.sum_cons, List.sum_nil, Nat.add_zero]
/-- What 'beyond' says: no means that all fits. -/
def BeyondPost (its : List ItA) (w : World) (r : Ending) (w' : World) : Prop := ∃ b, r = .returned (.bool b) ∧ (b = false → tot its < 2147483648) ∧ w = w'
theorem beyond_any (A : Option Addr) (its : List ItA) (cap : Nat) (w : World) (hi : ItemsAt w A its) (hl : its.length * 40 ≤ 140737488351232) :
    Calls Try.prog 14 #[.slice A its.length cap] w (BeyondPost its w) := by
  obtain ⟨L, hL⟩ : ∃ L, its.length = L := ⟨_, rfl⟩
  have HI := Lib.hid hi
  have HL := Lib.hid hL
  rw [hL] at hl ⊢
  clear hi hL
  have hl2 : L ≤ 3518437208780 := by omega
  clear hl
  go_enter Try.func14, Try.ntmps14
  go_wp2_with fail
  go_loopw [3, 4] (fun x3 x4 wr => ∃ (i : Nat) (n : Int), x4 = .int .i64 i ∧ x3 = .int .i64 n ∧ i ≤ L ∧ n = tot (its.take i) ∧ n < 2147483648 ∧ w = wr) (fun _ x4 _ => L - (intOf x4).toNat)
  case atStart => exact ⟨0, 0, rfl, rfl, Nat.zero_le _, rfl, by omega, rfl⟩
  case round =>
    obtain ⟨i, n, rfl, rfl, hil, hn, hnb, rfl⟩ := hrel
    have hn0 : 0 ≤ n := by omega
    have HN := Lib.hid hn
    clear hn
    by_cases h : i < L
    · have hd : decide (i < L) = true := by simpa using h
      obtain ⟨hf, b, off, rfl, hb, hc⟩ := HI.out i (by rw [HL.out]; exact h)
      have c3 := hc 3 _ rfl
      have HT := Lib.hid (tot_take its i (by rw [HL.out]; exact h))
      obtain ⟨z, hz⟩ : ∃ z, (its[i]'(by rw [HL.out]; exact h)).s = z := ⟨_, rfl⟩
      have hzs : z.size ≤ 140737488351232 := by rw [← hz]; exact hf.2.2
      rw [hz] at c3 HT
      clear hf hc hz
      obtain ⟨m, hm⟩ : ∃ m : Int, m = n + 1 := ⟨_, rfl⟩
      have hw1 : IntKind.i64.wrap (n + 1) = m := by rw [IntWalk.i64_in _ (by omega)]; omega
      have HM := Lib.hid hm
      have hmb : m ≤ 2147483648 := by omega
      have hm0 : 0 ≤ m := by omega
      clear hm
      have hw2 : IntKind.i64.wrap (2147483647 - m) = 2147483647 - m := IntWalk.i64_in _ (by omega)
      by_cases hs : 2147483647 - m < (z.size : Int) ∨ 2147483647 ≤ m
      · have hs2 : (decide (2147483647 - m < (z.size : Int)) = true ∧ True) ∨ (decide (2147483647 - m < (z.size : Int)) = false ∧ decide (2147483647 ≤ m) = true) := by
          by_cases h3 : 2147483647 - m < (z.size : Int)
          · left; exact ⟨by simpa using h3, trivial⟩
          · right; exact ⟨by simpa using h3, by simp; omega⟩
        rcases hs2 with ⟨q1, q2⟩ | ⟨q1, q2⟩
        · have q3 : ¬ ((z.size : Int) ≤ 2147483647 - m) := by simp at q1; omega
          clear hs hmb hnb hzs hl2 hil
          go_wp2_with fail
          go_ret
          exact ⟨true, rfl, fun h => by simp at h, rfl⟩
        · have q3 : ((z.size : Int) ≤ 2147483647 - m) := by simp at q1; omega
          clear hs hmb hnb hzs hl2 hil
          go_wp2_with fail
          go_ret
          exact ⟨true, rfl, fun h => by simp at h, rfl⟩
      · obtain ⟨p, hp⟩ : ∃ p : Int, p = m + z.size := ⟨_, rfl⟩
        have hw3 : IntKind.i64.wrap (m + (z.size : Int)) = p := by rw [IntWalk.i64_in _ (by omega)]; omega
        have q1 : decide (2147483647 - m < (z.size : Int)) = false := by simp; omega
        have q2 : decide (2147483647 ≤ m) = false := by simp; omega
        have q3 : ((z.size : Int) ≤ 2147483647 - m) := by omega
        have HP := Lib.hid hp
        have hpb : p < 2147483648 := by omega
        have HPB := Lib.hid hpb
        have HILb := Lib.hid hil
        have hi2 : i ≤ 3518437208780 := by omega
        clear hp hs hmb hnb hzs hl2 hpb hil
        go_wp2_with fail
        go_roundw
        case rel => exact ⟨i + 1, p, by simp, rfl, by have := HILb.out; omega, by rw [HT.out, HP.out, HM.out, HN.out]; omega, HPB.out, trivial⟩
        case measure => simp [intOf]; omega
    · have hd : decide (i < L) = false := by simpa using h
      go_wp2_with fail
      go_ret
      refine ⟨false, rfl, fun _ => ?_, rfl⟩
      have := HN.out
      rw [List.take_of_length_le (by rw [HL.out]; omega)] at this
      omega
end Go.Proofs.Ytkpgdonpmfebaaa.Bt

/- The law's items laid down: laid. -/
namespace Go.Proofs.Ytkpgdonpmfebaaa.Bt
open Go.RowKit Go.Hp
attribute [local go_sem] min2_lean min_two max2_lean max_two
set_option linter.unusedSimpArgs false
set_option linter.unusedVariables false
set_option maxRecDepth 100000
theorem Try.info3 : (Try.prog.info? 3).map (fun i => (i.zero, i.size, i.bytes)) = some (some (.int .i64 0), 1, 8) := by kernel_rfl

/-- An item as bytes. -/
def enc (x : ItA) : List UInt8 := if x.kind = 1 then vi x.n.toNat else if x.kind = 2 then vi (zz x.n) else if x.kind = 3 then [if x.v then 1 else 0] else vi x.s.size ++ x.s.data.toList
def encs (its : List ItA) : List UInt8 := (its.map fun x => enc x.right).flatten
theorem right_fits {x : ItA} (h : x.fits) : x.right.fits ∧ x.right.s = x.s ∧ 1 ≤ x.right.kind ∧ x.right.kind ≤ 5 ∧ (x.right.kind = 1 → 0 ≤ x.right.n) := by
  obtain ⟨k, n, v, s⟩ := x
  obtain ⟨h1, h2, h3⟩ := h
  simp only [] at h1 h2 h3
  unfold ItA.right ItA.fits
  simp only []
  split
  · exact ⟨⟨by simp, h2, h3⟩, rfl, by simp, by simp, by simp⟩
  · split
    · exact ⟨⟨h1, by simp only []; omega, h3⟩, rfl, by simp only []; omega, by simp only []; omega, by simp only []; omega⟩
    · exact ⟨⟨h1, h2, h3⟩, rfl, by simp only []; omega, by simp only []; omega, by simp only []; omega⟩
theorem enc_len {x : ItA} (h : x.fits) : 1 ≤ (enc x).length ∧ (enc x).length ≤ x.s.size + 10 := by
  have h63 : (9223372036854775807 : Int).toNat < 2 ^ 64 := by decide
  have h64 : (2 : Nat) ^ 64 = 18446744073709551616 := by decide
  obtain ⟨_, h2, h3⟩ := h
  unfold enc
  split
  · exact ⟨vi_pos _, by have := vi_len64 x.n.toNat (by omega); omega⟩
  · split
    · exact ⟨vi_pos _, by have := vi_len64 (zz x.n) (zz_lt _ h2.1 h2.2); omega⟩
    · split
      · simp
      · have h1 := vi_len64 x.s.size (by omega)
        have h2 := vi_pos x.s.size
        have h4 : x.s.data.toList.length = x.s.size := by rw [Array.length_toList]; rfl
        rw [List.length_append, h4]
        omega
theorem encs_take (its : List ItA) (i : Nat) (h : i < its.length) : encs (its.take (i + 1)) = encs (its.take i) ++ enc its[i].right := by
  unfold encs
  rw [List.take_add_one, List.getElem?_eq_getElem h]
  simp only [Option.toList_some, List.map_append, List.flatten_append, List.map_cons, List.map_nil, List.flatten_cons, List.flatten_nil, List.append_nil]
theorem encs_len (its : List ItA) (h : ∀ i (hi : i < its.length), its[i].fits) (i : Nat) (hi : i ≤ its.length) : (encs (its.take i)).length ≤ 10 * tot (its.take i) := by
  induction i with
  | zero => simp [encs]
  | succ i ih =>
    rw [encs_take its i (by omega), List.length_append, tot_take its i (by omega)]
    have h1 := ih (by omega)
    have h2 := right_fits (h i (by omega))
    have h3 := enc_len h2.1
    rw [h2.2.1] at h3
    omega
theorem tot_le (its : List ItA) (i : Nat) : tot (its.take i) ≤ tot its := by
  conv => rhs; rw [← List.take_append_drop i its]
  unfold tot
  rw [List.map_append, List.sum_append]
  omega
theorem tot_len (its : List ItA) : its.length ≤ tot its := by
  induction its with
  | nil => simp
  | cons a l ih => unfold tot at *; simp only [List.map_cons, List.sum_cons, List.length_cons]; omega
def endsC (its : List ItA) (i : Nat) : List Value := (List.range i).map fun j => .int .i64 ((encs (its.take (j + 1))).length : Int)
theorem endsC_succ (its : List ItA) (i : Nat) : endsC its (i + 1) = endsC its i ++ [.int .i64 ((encs (its.take (i + 1))).length : Int)] := by
  unfold endsC
  rw [List.range_succ, List.map_append]
  rfl

/-- What a writer's step comes to. -/
def Wrote (s : WrS) (x : ItA) (w : World) (r : Ending) (w' : World) : Prop := r = .returned (.tuple #[]) ∧ ∃ v', Turns w w' s.own ({ s with v := v', bs := s.bs ++ enc x } : WrS).own
section
variable (s : WrS) (w : World) (hs : s.own.holds w) (hb : s.bad = false)
include hs hb
theorem wrote_num (n : Int) (b : Bool) (x : ByteArray) (h0 : 0 ≤ n) (h1 : n ≤ 9223372036854775807) (hl : s.bs.length + 10 ≤ 140737488355328) :
    Calls Try.prog 59 #[.pointer (some ⟨s.g, 0, none⟩), .int .i64 n] w (Wrote s ⟨1, n, b, x⟩ w) := by
  obtain ⟨k, rfl⟩ : ∃ k : Nat, n = k := ⟨n.toNat, by omega⟩
  exact num_ok s k w hs (by have : (2 : Nat) ^ 63 = 9223372036854775808 := by decide
                            omega) hb hl
theorem wrote_signed (n : Int) (b : Bool) (x : ByteArray) (h0 : -9223372036854775808 ≤ n) (h1 : n ≤ 9223372036854775807) (hl : s.bs.length + 10 ≤ 140737488355328) :
    Calls Try.prog 60 #[.pointer (some ⟨s.g, 0, none⟩), .int .i64 n] w (Wrote s ⟨2, n, b, x⟩ w) := signed_ok s n w hs h0 h1 hb hl
theorem wrote_bool (n : Int) (b : Bool) (x : ByteArray) (hl : s.bs.length + 10 ≤ 140737488355328) :
    Calls Try.prog 65 #[.pointer (some ⟨s.g, 0, none⟩), .bool b] w (Wrote s ⟨3, n, b, x⟩ w) := bool_ok s b w hs hb hl
theorem wrote_text (n : Int) (b : Bool) (x : ByteArray) (hl : s.bs.length + x.size + 10 ≤ 140737488355328) :
    Calls Try.prog 61 #[.pointer (some ⟨s.g, 0, none⟩), .string x] w (Wrote s ⟨4, n, b, x⟩ w) := (text_ok s x w hs hb hl).mono fun _ _ ⟨h1, v, h2⟩ => ⟨h1, v, by rw [List.append_assoc] at h2; exact h2⟩
end
end Go.Proofs.Ytkpgdonpmfebaaa.Bt

/- The law's items laid down: laid. -/
namespace Go.Proofs.Ytkpgdonpmfebaaa.Bt
open Go.RowKit Go.Hp
attribute [local go_sem] min2_lean min_two max2_lean max_two
set_option linter.unusedSimpArgs false
set_option linter.unusedVariables false
set_option maxRecDepth 100000
theorem Src.far {w w' : World} {b off n c size : Nat} {cs : List Value} {S : Nat → Prop} (h : Src w (.slice (some ⟨b, off, none⟩) n c) n size cs) (hc : Chg S w w') (hS : ¬ S b) : Src w' (.slice (some ⟨b, off, none⟩) n c) n size cs := by
  refine ⟨h.1, ?_⟩
  rcases h.2 with ⟨c', h1, _⟩ | ⟨ad, c', h1, hcell⟩
  · cases h1
  · have hA : ad = ⟨b, off, none⟩ := by have := (Value.slice.inj h1).1; exact (Option.some.inj this).symm
    subst hA
    refine Or.inr ⟨_, c, rfl, fun j u hu => ?_⟩
    have hb : ((⟨b, off, none⟩ : Addr).add j).block = b := by unfold Addr.add; split <;> rfl
    have hcj := hcell j u hu
    have hlt := block_lt_of_cell hcj
    exact (hc.cell hlt (by rw [hb]; exact hS)).trans hcj
theorem wrote_bytes (s : WrS) (w : World) (hs : s.own.holds w) (hb : s.bad = false) (n : Int) (b : Bool) (x : ByteArray) (c b0 : Nat) (hb0 : b0 = w.heap.size) (hl : s.bs.length + x.size + 10 ≤ 140737488355328) :
    Calls Try.prog 68 #[.pointer (some ⟨s.g, 0, none⟩), .slice (some ⟨b0, 0, none⟩) x.size c] (Lib.bytesWorld w 5 x) (Wrote s ⟨5, n, b, x⟩ w) := by
  subst hb0
  have hk := Turns.of_kept hs (bytesWorld_chg w 5 x)
  have hsz : x.data.toList.length = x.size := by rw [Array.length_toList]; rfl
  have hsrc := bytesWorld_src w 5 x c
  rw [hsz] at hsrc
  refine (bytes_ok s _ _ _ x.data.toList _ hk.now hsrc (fun w' hc => ?_) hb (by omega)).mono ?_
  · refine Src.far hsrc hc (fun hf => ?_)
    have := s.own.lt hs _ hf
    omega
  · rintro e w' ⟨rfl, v, ht⟩
    rw [hsz, List.append_assoc] at ht
    exact ⟨rfl, v, hk.trans ht⟩
theorem bool_wrote (s : WrS) (x : ItA) : True := trivial
theorem stop_ {p : Prop} (h : Hid p) : p := Hid.out h
theorem done_len (s : WrS) (w : World) (m : Nat) (hm : s.bs.length = m) (hs : s.own.holds w) (hb : s.bad = false) (hl : m ≤ 140737488355328) :
    Calls Try.prog 18 #[.pointer (some ⟨s.g, 0, none⟩)] w fun r w' => ∃ A c, r = .returned (.tuple #[.slice A m c, .int .i64 0]) ∧ Turns w w' Own.emp (Own.row 5 1 (.slice A m c) m (s.bs.map bv)) := by
  subst hm
  refine (done_ok s w hs hb hl).mono ?_
  rintro r w' ⟨o, rfl, ht, _⟩
  obtain ⟨A, c, rfl⟩ := row_slice ht.now
  exact ⟨A, c, rfl, ht⟩
set_option maxHeartbeats 4000000 in
theorem laid_any (A : Option Addr) (its : List ItA) (cap : Nat) (w : World) (hi : ItemsAt w A its) (ht : tot its < 2147483648) :
    Calls Try.prog 36 #[.slice A its.length cap] w fun r w' => ∃ o v, r = .returned (.tuple #[o, v, .bool true]) ∧
      Turns w w' Own.emp (Own.both (Own.row 5 1 o (encs its).length ((encs its).map bv)) (Own.row 3 1 v its.length (endsC its its.length))) := by
  obtain ⟨iu, hiu, hzau, hzbu, hzcu⟩ := info_parts Try.info5
  obtain ⟨ij, hij, hzaj, hzbj, hzcj⟩ := info_parts Try.info3
  have hcv := fun (w : World) (x : ByteArray) => Lib.run_convert_string_bytes (P := Try.prog) w 9 38 5 x Try.underlying9 Try.underlying38 Try.underlying5
  have htl := tot_len its
  have hel : ∀ i, i ≤ its.length → (encs (its.take i)).length ≤ 10 * tot its := fun i hil => Nat.le_trans (encs_len its (fun i h => (hi i h).1) i hil) (Nat.mul_le_mul_left _ (tot_le its i))
  have HEL := Lib.hid hel
  obtain ⟨T, hT⟩ : ∃ T, tot its = T := ⟨_, rfl⟩
  rw [hT] at HEL ht htl
  have HTT := Lib.hid hT
  obtain ⟨L, hL⟩ : ∃ L, its.length = L := ⟨_, rfl⟩
  rw [hL] at HEL htl ⊢
  have HI := Lib.hid hi
  have HL := Lib.hid hL
  clear hi hel hT hL
  have HT0 := Lib.hid ht
  have hL0 : L < 2147483648 := by omega
  have HTL := Lib.hid htl
  clear ht htl
  go_enter Try.func36, Try.ntmps36
  go_wp2_with (go_at_call 15; refine (newW_any _).mono ?_; rintro r w0 ⟨rfl, ht0⟩; have HW0 := Lib.hid ht0; clear ht0)
  generalize w.heap.size = g at *
  go_loopw [6, 7] (fun x6 x7 wr => ∃ (i : Nat) (v : Value) (Au : Option Addr) (cu : Nat), x7 = .int .i64 i ∧ x6 = .slice Au i cu ∧ i ≤ L ∧ Turns w wr Own.emp (Own.both (WrS.mk g v (encs (its.take i)) false).own (Own.row 3 1 (.slice Au i cu) i (endsC its i)))) (fun _ x7 _ => L - (intOf x7).toNat)
  case atStart => exact ⟨0, _, _, _, rfl, rfl, Nat.zero_le _, HW0.out.addNil _ _⟩
  case round =>
    obtain ⟨i, v, Au, cu, rfl, rfl, hil, ht⟩ := hrel
    have HT := Lib.hid ht
    have HIL := Lib.hid hil
    clear ht
    by_cases h : i < L
    · have hd : decide (i < L) = true := by simpa using h
      obtain ⟨hf, b, off, rfl, hb, hc⟩ := HI.out i (by rw [HL.out]; exact h)
      have HTK := Lib.hid (encs_take its i (by rw [HL.out]; exact h))
      have HRF := Lib.hid (right_fits hf)
      have HTo := Lib.hid (tot_take its i (by rw [HL.out]; exact h))
      have HTo2 := Lib.hid (tot_le its (i + 1))
      generalize its[i]'(by rw [HL.out]; exact h) = it at *
      have hzl : it.s.size < 2147483648 := by have h1 := HTo.out; have h2 := HTo2.out; have h3 := HTT.out; have h4 := HT0.out; omega
      have HR := Lib.hid (fun W => right_any it W hf.2.1.1 hf.2.1.2)
      have hrs : it.right.s.size < 2147483648 := by rw [HRF.out.2.1]; exact hzl
      obtain ⟨q, hq⟩ : ∃ q, it.right = q := ⟨_, rfl⟩
      rw [hq] at HR HRF HTK hrs
      obtain ⟨k, n, bb, z⟩ := q
      simp only [] at hrs
      obtain ⟨⟨hk1, hk2⟩, ⟨hn1, hn2⟩, _⟩ := HRF.out.1
      have hk3 := HRF.out.2.2.1
      have hk4 := HRF.out.2.2.2.1
      have hk5 := HRF.out.2.2.2.2
      simp only [] at hk1 hk2 hn1 hn2 hk3 hk4 hk5
      have hBl := HEL.out i (by omega)
      have hBl2 := HEL.out (i + 1) (by omega)
      rw [HTK.out] at hBl2
      have hb1 : (encs (List.take i its)).length ≤ 21474836480 := by have := HT0.out; omega
      have hb2 : (encs (List.take i its) ++ enc ⟨k, n, bb, z⟩).length ≤ 21474836480 := by have := HT0.out; omega
      have hcw : ∀ p u, w.cell? p = some u → wr.cell? p = some u := fun p u hp => (HT.out.chg.cell (block_lt_of_cell hp) (fun h => h)).trans hp
      have c0 : wr.cell? ⟨b, off + i * 4, none⟩ = some (.int .i64 it.kind) := hcw _ _ (hc 0 _ rfl)
      have c1 : wr.cell? ⟨b, off + i * 4 + 1, none⟩ = some (.int .i64 it.n) := hcw _ _ (hc 1 _ rfl)
      have c2 : wr.cell? ⟨b, off + i * 4 + 2, none⟩ = some (.bool it.v) := hcw _ _ (hc 2 _ rfl)
      have c3 : wr.cell? ⟨b, off + i * 4 + 3, none⟩ = some (.string it.s) := hcw _ _ (hc 3 _ rfl)
      obtain ⟨B, hB⟩ : ∃ B, encs (List.take i its) = B := ⟨_, rfl⟩
      rw [hB] at HT HTK hb1 hb2
      have HHB := Lib.hid hB
      clear hB hBl hBl2 hc hcw hf hq
      have hi2 : i < 2147483648 := by omega
      obtain ⟨m, hm⟩ : ∃ m, (B ++ enc ⟨k, n, bb, z⟩).length = m := ⟨_, rfl⟩
      rw [hm] at hb2
      have HM := Lib.hid hm
      clear hm
      have hk : k = 1 ∨ k = 2 ∨ k = 3 ∨ k = 4 ∨ k = 5 := by omega
      obtain ⟨ik, in_, ib, is_⟩ := it
      simp only [] at hzl c0 c1 c2 c3
      simp only [ItA.cells] at HR
      have HN := Lib.hid hk5
      clear hk5 hk1 hk2 hk3 hk4
      rcases hk with rfl | rfl | rfl | rfl | rfl
      all_goals
        go_wp2_with (first
          | (go_at_call 33; refine (HR.out _).mono ?_; rintro r w1 ⟨rfl, hc1⟩; have HC1 := Lib.hid (HT.out.kept hc1); clear hc1)
          | (go_at_call 59; refine (wrote_num (WrS.mk g v B false) _ (HC1.out.alloc _).now.1 rfl n bb z (by first | exact HN.out rfl | exact HN.out trivial) (by omega) (by simp only []; omega)).mono ?_; rintro r w2 ⟨rfl, v2, ht2⟩; have HW2 := Lib.hid ((HC1.out.alloc _).trans (Turns.left (HC1.out.alloc _).now ht2)); clear ht2)
          | (go_at_call 60; refine (wrote_signed (WrS.mk g v B false) _ (HC1.out.alloc _).now.1 rfl n bb z (by omega) (by omega) (by simp only []; omega)).mono ?_; rintro r w2 ⟨rfl, v2, ht2⟩; have HW2 := Lib.hid ((HC1.out.alloc _).trans (Turns.left (HC1.out.alloc _).now ht2)); clear ht2)
          | (go_at_call 65; refine (wrote_bool (WrS.mk g v B false) _ (HC1.out.alloc _).now.1 rfl n bb z (by simp only []; omega)).mono ?_; rintro r w2 ⟨rfl, v2, ht2⟩; have HW2 := Lib.hid ((HC1.out.alloc _).trans (Turns.left (HC1.out.alloc _).now ht2)); clear ht2)
          | (go_at_call 61; refine (wrote_text (WrS.mk g v B false) _ (HC1.out.alloc _).now.1 rfl n bb z (by simp only []; omega)).mono ?_; rintro r w2 ⟨rfl, v2, ht2⟩; have HW2 := Lib.hid ((HC1.out.alloc _).trans (Turns.left (HC1.out.alloc _).now ht2)); clear ht2)
          | (go_at_call 68; refine (wrote_bytes (WrS.mk g v B false) _ (HC1.out.alloc _).now.1 rfl n bb z _ _ (by simp) (by simp only []; omega)).mono ?_; rintro r w2 ⟨rfl, v2, ht2⟩; have HW2 := Lib.hid ((HC1.out.alloc _).trans (Turns.left (HC1.out.alloc _).now ht2)); clear ht2)
          | (go_at_call 18; refine (done_len (WrS.mk g v2 (B ++ enc ⟨_, n, bb, z⟩) false) _ m HM.out HW2.out.now.1 rfl (by omega)).mono ?_; rintro r w3 ⟨Ao, co, rfl, ht3⟩; have HW3 := Lib.hid (HW2.out.kept ht3.chg); clear ht3)
          | (at_builtin; refine wpList_app1 _ rfl (.tmp 67) (.tmp 70) 57 rfl 3 ij (.int .i64 0) 1 8 Try.underlying57 hij hzaj hzbj hzcj rfl (by decide) (.slice Au i cu) i (endsC its i) rfl _ _ _ rfl (by first | rfl | simp) HW3.out.now.2.1 rfl (by simp [Value.oneCell']) (by simp only [maxLen]; omega) (by omega) ?_; intro g4 c4 w4 hc4 ht4; have HT4 := Lib.hid ht4; clear ht4))
        go_roundw
        case rel =>
          refine ⟨i + 1, v2, _, _, by simp, rfl, by have := HIL.out; omega, ?_⟩
          have h2 := HW3.out.trans (Turns.rightT HW3.out.now HT4.out)
          rw [endsC_succ, HTK.out, HM.out]
          exact h2
        case measure => simp [intOf]; omega
    · have hd : decide (i < L) = false := by simpa using h
      obtain rfl : i = L := by have := HIL.out; omega
      have htk : its.take i = its := List.take_of_length_le (by rw [HL.out]; exact Nat.le_refl _)
      have hel := HEL.out i (Nat.le_refl _)
      have h0 := HT0.out
      rw [htk] at HT hel
      obtain ⟨m, hm⟩ : ∃ m, (encs its).length = m := ⟨_, rfl⟩
      rw [hm] at hel
      have hb2 : m ≤ 21474836480 := by omega
      have HM := Lib.hid hm
      clear hm htk hel h0 HEL HTL
      go_wp2_with (go_at_call 18; refine (done_len (WrS.mk g v (encs its) false) _ m HM.out HT.out.now.1 rfl (by omega)).mono ?_; rintro r w3 ⟨Ao, co, rfl, ht3⟩; have HW3 := Lib.hid ((HT.out.dropL).trans (Turns.add HT.out.dropL.now ht3)); clear ht3)
      go_ret3
      refine ⟨_, _, rfl, ?_⟩
      rw [HM.out]
      exact HW3.out
end Go.Proofs.Ytkpgdonpmfebaaa.Bt

/- The law's helper still; what a writer's step comes to, broken or not. -/
namespace Go.Proofs.Ytkpgdonpmfebaaa.Bt
open Go.RowKit Go.Hp
attribute [local go_sem] min2_lean min_two max2_lean max_two
set_option linter.unusedSimpArgs false
set_option linter.unusedVariables false
set_option maxRecDepth 100000
theorem lentC_len (xs : List UInt8) : (lentC xs 8).length = xs.length + 8 := by unfold lentC; simp
theorem lentC_in (xs : List UInt8) (i : Nat) (h : i < xs.length) : (lentC xs 8)[i]? = some (bv xs[i]) := by
  unfold lentC
  rw [List.getElem?_append_left (by simpa using h)]
  simp [h]
theorem lentC_out (xs : List UInt8) (i : Nat) (h1 : xs.length ≤ i) (h2 : i < xs.length + 8) : (lentC xs 8)[i]? = some (.int .u8 165) := by
  unfold lentC
  rw [List.getElem?_append_right (by simpa using h1), List.getElem?_append_left (by simp; omega), List.getElem?_replicate, if_pos (by simp; omega)]
theorem Src.cellAt {w : World} {A : Option Addr} {n c : Nat} {xs : List Value} (h : Src w (.slice A n c) n 1 xs) (i : Nat) (hi : i < n) {u : Value} (hu : xs[i]? = some u) : ∃ ad, A = some ad ∧ w.cell? (ad.add i) = some u := by
  rcases h.2 with ⟨c', h1, h0⟩ | ⟨ad, c', h1, hc⟩
  · omega
  · exact ⟨ad, (Value.slice.inj h1).1, hc i u hu⟩
theorem still_yes (A B : Option Addr) (n c d : Nat) (xs : List UInt8) (w : World) (hs : Src w (.slice A (n + 8) c) (n + 8) 1 (lentC xs 8)) (ht : Src w (.slice B n d) n 1 (xs.map bv)) (hl : n ≤ 140737488351232) :
    Calls Try.prog 27 #[.slice A (n + 8) c, .slice B n d] w fun e w' => e = .returned (.bool true) ∧ ∃ q, w.drewN q = w' := by
  have hxl : xs.length = n := by have := ht.1; simpa using this
  have HS := Lib.hid hs
  have HT := Lib.hid ht
  have HXL := Lib.hid hxl
  clear hs ht hxl
  obtain ⟨m, hm⟩ : ∃ m, n + 8 = m := ⟨_, rfl⟩
  rw [hm] at HS ⊢
  have HM := Lib.hid hm
  have hmb : m ≤ 140737488351240 := by omega
  clear hm
  go_enter Try.func27, Try.ntmps27
  go_wp2_with fail
  go_loopw [5] (fun x5 wr => ∃ i : Nat, x5 = .int .i64 i ∧ i ≤ m ∧ ∃ q, w.drewN q = wr) (fun x5 _ => m - (intOf x5).toNat)
  case atStart => exact ⟨0, rfl, Nat.zero_le _, 0, rfl⟩
  case round =>
    obtain ⟨i, rfl, him, q, rfl⟩ := hrel
    by_cases hlt : i < m
    · have hd : decide ((i : Int) < (m : Int)) = true := by simp; omega
      have hd' : decide (i < m) = true := by simp; omega
      by_cases hin : i < n
      · have hix : i < xs.length := by rw [HXL.out]; exact hin
        obtain ⟨ad, rfl, c0⟩ := Src.cellAt HS.out i hlt (lentC_in xs i hix)
        obtain ⟨bd, rfl, c1⟩ := Src.cellAt HT.out i hin (u := bv xs[i]) (by simp [hix])
        obtain ⟨a, ha⟩ : ∃ a, xs[i].toNat = a := ⟨_, rfl⟩
        rw [show bv xs[i] = .int .u8 a by rw [← ha]; rfl] at c0 c1
        have c0' : (w.drewN q).cell? (ad.add i) = some (.int .u8 a) := c0
        have c1' : (w.drewN q).cell? (bd.add i) = some (.int .u8 a) := c1
        have e1 : decide ((i : Int) < (n : Int)) = true := by simp; omega
        have e1' : decide (i < n) = true := by simp; omega
        have e2 : decide ((n : Int) ≤ (i : Int)) = false := by simp; omega
        have e2' : decide (n ≤ i) = false := by simp; omega
        have q1 : ((a : Int) != (a : Int)) = false := by simp
        clear ha hix
        go_wp2_with fail
        go_quiet (fail)
        go_wp2_with fail
        go_roundw
        case rel => exact ⟨i + 1, by simp, by omega, _, rfl⟩
        case measure => simp [intOf]; omega
      · obtain ⟨ad, rfl, c0⟩ := Src.cellAt HS.out i hlt (lentC_out xs i (by rw [HXL.out]; omega) (by rw [HXL.out]; have := HM.out; omega))
        have c0' : (w.drewN q).cell? (ad.add i) = some (.int .u8 165) := c0
        have e1 : decide ((i : Int) < (n : Int)) = false := by simp; omega
        have e1' : decide (i < n) = false := by simp; omega
        have e2 : decide ((n : Int) ≤ (i : Int)) = true := by simp; omega
        have e2' : decide (n ≤ i) = true := by simp; omega
        go_wp2_with fail
        go_quiet (fail)
        go_wp2_with fail
        go_roundw
        case rel => exact ⟨i + 1, by simp, by omega, _, rfl⟩
        case measure => simp [intOf]; omega
    · have hd : decide ((i : Int) < (m : Int)) = false := by simp; omega
      have hd' : decide (i < m) = false := by simp; omega
      go_wp2_with fail
      go_ret
      exact ⟨rfl, q, rfl⟩
/-- What a step makes of the bytes, and of a writer's soundness. -/
def wrB (bs : List UInt8) (bad : Bool) (x : ItA) : List UInt8 × Bool :=
  if x.kind = 1 ∧ x.n < 0 then (bs, true) else if bad = true ∨ x.kind < 1 ∨ 5 < x.kind then (bs, bad) else (bs ++ enc x, bad)
def WP (s : WrS) (x : ItA) (w : World) (r : Ending) (w' : World) : Prop := r = .returned (.tuple #[]) ∧ ∃ v', Turns w w' s.own (WrS.mk s.g v' (wrB s.bs s.bad x).1 (wrB s.bs s.bad x).2).own
def XP (s : WrS) (x : ItA) (w : World) (r : Ending) (w' : World) : Prop := r = .returned (.tuple #[]) ∧ ∃ v', Turns w w' s.xown (WrS.mk s.g v' (wrB s.bs s.bad x).1 (wrB s.bs s.bad x).2).xown
theorem wrB_neg (bs : List UInt8) (bad : Bool) {x : ItA} (h : x.kind = 1 ∧ x.n < 0) : wrB bs bad x = (bs, true) := by unfold wrB; rw [if_pos h]
theorem wrB_bad (bs : List UInt8) {x : ItA} (h : ¬ (x.kind = 1 ∧ x.n < 0)) : wrB bs true x = (bs, true) := by unfold wrB; rw [if_neg h, if_pos (Or.inl rfl)]
theorem wrB_ok (bs : List UInt8) {x : ItA} (h : ¬ (x.kind = 1 ∧ x.n < 0)) (h1 : 1 ≤ x.kind) (h2 : x.kind ≤ 5) : wrB bs false x = (bs ++ enc x, false) := by
  unfold wrB
  rw [if_neg h, if_neg (by simp; omega)]
theorem wrB_none (bs : List UInt8) (bad : Bool) {x : ItA} (h : x.kind < 1 ∨ 5 < x.kind) : wrB bs bad x = (bs, bad) := by
  unfold wrB
  rw [if_neg (by omega), if_pos (Or.inr h)]
section
variable (s : WrS) (w : World)
theorem w_num (n : Int) (b : Bool) (x : ByteArray) (hs : s.own.holds w) (h0 : -9223372036854775808 ≤ n) (h1 : n ≤ 9223372036854775807) (hl : s.bs.length + 10 ≤ 140737488355328) :
    Calls Try.prog 59 #[.pointer (some ⟨s.g, 0, none⟩), .int .i64 n] w (WP s ⟨1, n, b, x⟩ w) := by
  obtain ⟨g, v, bs, bad⟩ := s
  unfold WP
  by_cases hn : n < 0
  · rw [wrB_neg bs bad (x := ⟨1, n, b, x⟩) ⟨rfl, hn⟩]
    exact (num_neg ⟨g, v, bs, bad⟩ n w hs hn).mono fun _ _ ⟨h, t⟩ => ⟨h, v, t⟩
  · cases bad
    · rw [wrB_ok bs (x := ⟨1, n, b, x⟩) (fun h => hn h.2) (by simp) (by simp)]
      exact wrote_num ⟨g, v, bs, false⟩ w hs rfl n b x (by omega) h1 hl
    · rw [wrB_bad bs (x := ⟨1, n, b, x⟩) (fun h => hn h.2)]
      exact (num_bad ⟨g, v, bs, true⟩ n w hs (by omega) rfl).mono fun _ _ ⟨h, e⟩ => ⟨h, v, e ▸ Turns.refl hs⟩
theorem w_signed (n : Int) (b : Bool) (x : ByteArray) (hs : s.own.holds w) (h0 : -9223372036854775808 ≤ n) (h1 : n ≤ 9223372036854775807) (hl : s.bs.length + 10 ≤ 140737488355328) :
    Calls Try.prog 60 #[.pointer (some ⟨s.g, 0, none⟩), .int .i64 n] w (WP s ⟨2, n, b, x⟩ w) := by
  obtain ⟨g, v, bs, bad⟩ := s
  unfold WP
  cases bad
  · rw [wrB_ok bs (x := ⟨2, n, b, x⟩) (by simp) (by simp) (by simp)]
    exact wrote_signed ⟨g, v, bs, false⟩ w hs rfl n b x h0 h1 hl
  · rw [wrB_bad bs (x := ⟨2, n, b, x⟩) (by simp)]
    exact (signed_bad ⟨g, v, bs, true⟩ n w hs rfl).mono fun _ _ ⟨h, e⟩ => ⟨h, v, e ▸ Turns.refl hs⟩
theorem w_bool (n : Int) (b : Bool) (x : ByteArray) (hs : s.own.holds w) (hl : s.bs.length + 10 ≤ 140737488355328) :
    Calls Try.prog 65 #[.pointer (some ⟨s.g, 0, none⟩), .bool b] w (WP s ⟨3, n, b, x⟩ w) := by
  obtain ⟨g, v, bs, bad⟩ := s
  unfold WP
  cases bad
  · rw [wrB_ok bs (x := ⟨3, n, b, x⟩) (by simp) (by simp) (by simp)]
    exact wrote_bool ⟨g, v, bs, false⟩ w hs rfl n b x hl
  · rw [wrB_bad bs (x := ⟨3, n, b, x⟩) (by simp)]
    exact (bool_bad ⟨g, v, bs, true⟩ b w hs rfl).mono fun _ _ ⟨h, e⟩ => ⟨h, v, e ▸ Turns.refl hs⟩
theorem w_text (n : Int) (b : Bool) (x : ByteArray) (hs : s.own.holds w) (hl : s.bs.length + x.size + 10 ≤ 140737488355328) :
    Calls Try.prog 61 #[.pointer (some ⟨s.g, 0, none⟩), .string x] w (WP s ⟨4, n, b, x⟩ w) := by
  obtain ⟨g, v, bs, bad⟩ := s
  unfold WP
  cases bad
  · rw [wrB_ok bs (x := ⟨4, n, b, x⟩) (by simp) (by simp) (by simp)]
    exact wrote_text ⟨g, v, bs, false⟩ w hs rfl n b x hl
  · rw [wrB_bad bs (x := ⟨4, n, b, x⟩) (by simp)]
    exact (text_bad ⟨g, v, bs, true⟩ x w hs rfl).mono fun _ _ ⟨h, e⟩ => ⟨h, v, e ▸ Turns.refl hs⟩
theorem size_len (x : ByteArray) : x.data.toList.length = x.size := by rw [Array.length_toList]; rfl
theorem w_bytes (n : Int) (b : Bool) (x : ByteArray) (A : Option Addr) (c : Nat) (hs : s.own.holds w) (hx : Src w (.slice A x.size c) x.size 1 (x.data.toList.map bv)) (hf : ∀ w', Chg s.own.foot w w' → Src w' (.slice A x.size c) x.size 1 (x.data.toList.map bv)) (hl : s.bs.length + x.size + 10 ≤ 140737488355328) :
    Calls Try.prog 68 #[.pointer (some ⟨s.g, 0, none⟩), .slice A x.size c] w (WP s ⟨5, n, b, x⟩ w) := by
  obtain ⟨g, v, bs, bad⟩ := s
  have hl2 : bs.length + x.size + 10 ≤ 140737488355328 := hl
  have hsz := size_len x
  unfold WP
  cases bad
  · rw [wrB_ok bs (x := ⟨5, n, b, x⟩) (by simp) (by simp) (by simp)]
    refine (bytes_ok ⟨g, v, bs, false⟩ A x.size c x.data.toList w hs hx hf rfl (by rw [hsz]; exact hl2)).mono ?_
    rintro e w' ⟨rfl, v', ht⟩
    refine ⟨rfl, v', ?_⟩
    rw [hsz, List.append_assoc] at ht
    exact ht
  · rw [wrB_bad bs (x := ⟨5, n, b, x⟩) (by simp)]
    exact (bytes_bad ⟨g, v, bs, true⟩ A x.size c w hs rfl).mono fun _ _ ⟨h, e⟩ => ⟨h, v, e ▸ Turns.refl hs⟩
theorem x_num (n : Int) (b : Bool) (x : ByteArray) (hs : s.xown.holds w) (h0 : -9223372036854775808 ≤ n) (h1 : n ≤ 9223372036854775807) (hl : s.bs.length + 10 ≤ 140737488355328) :
    Calls Try.prog 63 #[.pointer (some ⟨s.g, 0, none⟩), .int .i64 n] w (XP s ⟨1, n, b, x⟩ w) := by
  obtain ⟨g, v, bs, bad⟩ := s
  unfold XP
  by_cases hn : n < 0
  · rw [wrB_neg bs bad (x := ⟨1, n, b, x⟩) ⟨rfl, hn⟩]
    exact (xnum_neg ⟨g, v, bs, bad⟩ n w hs hn).mono fun _ _ ⟨h, t⟩ => ⟨h, v, t⟩
  · obtain ⟨k, rfl⟩ : ∃ k : Nat, n = k := ⟨n.toNat, by omega⟩
    have hk : k < 2 ^ 63 := by have : (2 : Nat) ^ 63 = 9223372036854775808 := by decide
                               omega
    cases bad
    · rw [wrB_ok bs (x := ⟨1, (k : Int), b, x⟩) (fun h => hn h.2) (by simp) (by simp)]
      exact xnum_ok ⟨g, v, bs, false⟩ k w hs hk rfl hl
    · rw [wrB_bad bs (x := ⟨1, (k : Int), b, x⟩) (fun h => hn h.2)]
      exact (xnum_bad ⟨g, v, bs, true⟩ k w hs hk rfl).mono fun _ _ ⟨h, t⟩ => ⟨h, v, t⟩
theorem x_signed (n : Int) (b : Bool) (x : ByteArray) (hs : s.xown.holds w) (h0 : -9223372036854775808 ≤ n) (h1 : n ≤ 9223372036854775807) (hl : s.bs.length + 10 ≤ 140737488355328) :
    Calls Try.prog 64 #[.pointer (some ⟨s.g, 0, none⟩), .int .i64 n] w (XP s ⟨2, n, b, x⟩ w) := by
  obtain ⟨g, v, bs, bad⟩ := s
  unfold XP
  cases bad
  · rw [wrB_ok bs (x := ⟨2, n, b, x⟩) (by simp) (by simp) (by simp)]
    exact xsigned_ok ⟨g, v, bs, false⟩ n w hs h0 h1 rfl hl
  · rw [wrB_bad bs (x := ⟨2, n, b, x⟩) (by simp)]
    exact (xsigned_bad ⟨g, v, bs, true⟩ n w hs h0 h1 rfl).mono fun _ _ ⟨h, t⟩ => ⟨h, v, t⟩
theorem x_bool (n : Int) (b : Bool) (x : ByteArray) (hs : s.xown.holds w) (hl : s.bs.length + 10 ≤ 140737488355328) :
    Calls Try.prog 66 #[.pointer (some ⟨s.g, 0, none⟩), .bool b] w (XP s ⟨3, n, b, x⟩ w) := by
  obtain ⟨g, v, bs, bad⟩ := s
  unfold XP
  cases bad
  · rw [wrB_ok bs (x := ⟨3, n, b, x⟩) (by simp) (by simp) (by simp)]
    exact xbool_ok ⟨g, v, bs, false⟩ b w hs rfl hl
  · rw [wrB_bad bs (x := ⟨3, n, b, x⟩) (by simp)]
    exact (xbool_bad ⟨g, v, bs, true⟩ b w hs rfl).mono fun _ _ ⟨h, t⟩ => ⟨h, v, t⟩
theorem x_text (n : Int) (b : Bool) (x : ByteArray) (hs : s.xown.holds w) (hl : s.bs.length + x.size + 10 ≤ 140737488355328) :
    Calls Try.prog 67 #[.pointer (some ⟨s.g, 0, none⟩), .string x] w (XP s ⟨4, n, b, x⟩ w) := by
  obtain ⟨g, v, bs, bad⟩ := s
  have hl2 : bs.length + x.size + 10 ≤ 140737488355328 := hl
  unfold XP
  cases bad
  · rw [wrB_ok bs (x := ⟨4, n, b, x⟩) (by simp) (by simp) (by simp)]
    exact (xtext_ok ⟨g, v, bs, false⟩ x w hs rfl hl).mono fun _ _ ⟨h, v, t⟩ => ⟨h, v, by rw [List.append_assoc] at t; exact t⟩
  · rw [wrB_bad bs (x := ⟨4, n, b, x⟩) (by simp)]
    exact (xtext_bad ⟨g, v, bs, true⟩ x w hs rfl (by omega)).mono fun _ _ ⟨h, t⟩ => ⟨h, v, t⟩
theorem x_bytes (n : Int) (b : Bool) (x : ByteArray) (A : Option Addr) (c : Nat) (hs : s.xown.holds w) (hx : Src w (.slice A x.size c) x.size 1 (x.data.toList.map bv)) (hf : ∀ w', Chg s.xown.foot w w' → Src w' (.slice A x.size c) x.size 1 (x.data.toList.map bv)) (hl : s.bs.length + x.size + 10 ≤ 140737488355328) :
    Calls Try.prog 69 #[.pointer (some ⟨s.g, 0, none⟩), .slice A x.size c] w (XP s ⟨5, n, b, x⟩ w) := by
  obtain ⟨g, v, bs, bad⟩ := s
  have hl2 : bs.length + x.size + 10 ≤ 140737488355328 := hl
  have hsz := size_len x
  unfold XP
  cases bad
  · rw [wrB_ok bs (x := ⟨5, n, b, x⟩) (by simp) (by simp) (by simp)]
    refine (xbytes_ok ⟨g, v, bs, false⟩ A x.size c x.data.toList w hs hx hf rfl (by rw [hsz]; exact hl2)).mono ?_
    rintro e w' ⟨rfl, v', ht⟩
    refine ⟨rfl, v', ?_⟩
    rw [hsz, List.append_assoc] at ht
    exact ht
  · rw [wrB_bad bs (x := ⟨5, n, b, x⟩) (by simp)]
    exact (xbytes_bad ⟨g, v, bs, true⟩ A x.size c w hs rfl (by omega)).mono fun _ _ ⟨h, t⟩ => ⟨h, v, t⟩
end
end Go.Proofs.Ytkpgdonpmfebaaa.Bt

/- Package shelf: a result written. -/
namespace Go.Proofs.Ytkpgdonpmfebaaa.Rl
open Go.Proofs.Ytkpgdonpmfebaaa.Bt
open Go.RowKit Go.Hp
attribute [local go_sem] min2_lean min_two max2_lean max_two
set_option linter.unusedSimpArgs false
set_option linter.unusedVariables false
set_option maxRecDepth 100000
theorem chk_zero {code n : Int} {xs : List ByteArray} (h : chk code n xs = 0) : 0 ≤ code ∧ code ≤ 4 ∧ (code ≠ 0 → n = 0 ∧ xs = []) ∧ 0 ≤ n ∧ n ≤ 1099511627776 ∧ xs.length ≤ 8 ∧ ∀ s ∈ xs, s.size ≤ 64 := by
  unfold chk at h
  split at h
  · simp at h
  rename_i h1
  split at h
  · simp at h
  rename_i h2
  split at h
  · simp at h
  rename_i h3
  split at h
  · simp at h
  rename_i h4
  split at h
  · simp at h
  rename_i h5
  refine ⟨by omega, by omega, fun hc => ?_, by omega, by omega, by omega, fun s hs => ?_⟩
  · have h6 : ¬ (n ≠ 0 ∨ 0 < xs.length) := fun h7 => h2 ⟨hc, h7⟩
    have h8 : n = 0 := Decidable.byContradiction fun h9 => h6 (Or.inl h9)
    have h9 : ¬ 0 < xs.length := fun h9 => h6 (Or.inr h9)
    exact ⟨h8, List.eq_nil_of_length_eq_zero (by omega)⟩
  · exact Nat.le_of_not_lt fun h6 => h5 ⟨s, hs, h6⟩
/-- A number as bytes; a text; a result. -/
def eN (n : Int) : List UInt8 := enc ⟨1, n, false, ⟨#[]⟩⟩
def eT (x : ByteArray) : List UInt8 := enc ⟨4, 0, false, x⟩
def eR (code n : Int) (xs : List ByteArray) : List UInt8 := eN code ++ (if code = 0 then eN n ++ eN xs.length ++ (xs.map eT).flatten else [])
theorem eN_len {n : Int} (h0 : 0 ≤ n) (h1 : n ≤ 9223372036854775807) : (eN n).length ≤ 10 := by
  have h := (enc_len (x := ⟨1, n, false, ⟨#[]⟩⟩) ⟨by simp only []; omega, by simp only []; omega, by show (0 : Nat) ≤ _; omega⟩).2
  exact h
theorem eT_len {x : ByteArray} (h : x.size ≤ 64) : (eT x).length ≤ 74 := by
  have h := (enc_len (x := ⟨4, 0, false, x⟩) ⟨by simp, by simp, by simp only []; omega⟩).2
  simp only [eT]
  simp only [] at h
  omega
theorem wr_num (g : Nat) (v : Value) (bs : List UInt8) (n : Int) (w : World) (hs : (WrS.mk g v bs false).own.holds w) (h0 : 0 ≤ n) (h1 : n ≤ 9223372036854775807) (hl : bs.length ≤ 100000) :
    Calls Try.prog 59 #[.pointer (some ⟨g, 0, none⟩), .int .i64 n] w fun e w' => e = .returned (.tuple #[]) ∧ ∃ v', Turns w w' (WrS.mk g v bs false).own (WrS.mk g v' (bs ++ eN n) false).own := by
  have h := w_num (WrS.mk g v bs false) w n false ⟨#[]⟩ hs (by omega) h1 (by show bs.length + 10 ≤ _; omega)
  unfold WP at h
  rw [wrB_ok bs (x := ⟨1, n, false, ⟨#[]⟩⟩) (fun h => by have := h.2; simp only [] at this; omega) (by simp) (by simp)] at h
  exact h
theorem wr_text (g : Nat) (v : Value) (bs : List UInt8) (x : ByteArray) (w : World) (hs : (WrS.mk g v bs false).own.holds w) (h1 : x.size ≤ 64) (hl : bs.length ≤ 100000) :
    Calls Try.prog 61 #[.pointer (some ⟨g, 0, none⟩), .string x] w fun e w' => e = .returned (.tuple #[]) ∧ ∃ v', Turns w w' (WrS.mk g v bs false).own (WrS.mk g v' (bs ++ eT x) false).own := by
  have h := w_text (WrS.mk g v bs false) w 0 false x hs (by show bs.length + x.size + 10 ≤ _; omega)
  unfold WP at h
  rw [wrB_ok bs (x := ⟨4, 0, false, x⟩) (by simp) (by simp) (by simp)] at h
  exact h
def rw_ (A : Option Addr) (m c : Nat) (xs : List ByteArray) (g : Nat) (v : Value) (bs : List UInt8) : Hp.Own := Hp.Own.both (its A m c xs) (WrS.mk g v bs false).own
theorem rw_w {A : Option Addr} {m c : Nat} {xs : List ByteArray} {g : Nat} {v v' : Value} {bs bs' : List UInt8} {w W W' : World} {O : Hp.Own} (h : Turns w W O (rw_ A m c xs g v bs)) (t : Turns W W' (WrS.mk g v bs false).own (WrS.mk g v' bs' false).own) : Turns w W' O (rw_ A m c xs g v' bs') := h.trans (Turns.rightT h.now t)
theorem put_any (g : Nat) (v : Value) (bs : List UInt8) (code n : Int) (A : Option Addr) (m c : Nat) (xs : List ByteArray) (w : World) (h : (rw_ A m c xs g v bs).holds w) (hm : xs.length = m) (hck : chk code n xs = 0) (hb : bs.length ≤ 1000) :
    Calls Try.prog 87 #[.pointer (some ⟨g, 0, none⟩), .agg #[.int .i64 code, .int .i64 n, .slice A m c]] w fun e w' => e = .returned (.tuple #[]) ∧ ∃ v', Turns w w' (rw_ A m c xs g v bs) (rw_ A m c xs g v' (bs ++ eR code n xs)) := by
  obtain ⟨k0, k1, k2, k3, k4, k5, k6⟩ := chk_zero hck
  have HH := Lib.hid h
  have HT0 := Lib.hid ((Turns.refl h).alloc (.cells #[.int .i64 code, .int .i64 n, .slice A m c] 73))
  have HCK := fun W (h : (rw_ A m c xs g v bs).holds W) => check_any code n A m c xs W (Src.of_own (show W.ownsRow 0 9 1 (.slice A m c) m (xs.map Value.string) from h.1))
  rw [hck] at HCK
  have HCK := Lib.hid HCK
  have HM := Lib.hid hm
  have HB0 := Lib.hid (Blk.new w #[.int .i64 code, .int .i64 n, .slice A m c] 73)
  have hst : ∀ (W : World) (O' : Hp.Own), Turns (w.alloc (.cells #[.int .i64 code, .int .i64 n, .slice A m c] 73)) W (rw_ A m c xs g v bs) O' → W.cell? ⟨w.heap.size, 0, none⟩ = some (.int .i64 code) ∧ W.cell? ⟨w.heap.size, 1, none⟩ = some (.int .i64 n) ∧ W.cell? ⟨w.heap.size, 2, none⟩ = some (.slice A m c) := fun W O' t => by
    have hb := Blk.beside HH.out HB0.out (Nat.le_refl _) t
    exact ⟨hb.cell 0, hb.cell 1, hb.cell 2⟩
  have HST := Lib.hid hst
  clear h hst hck
  have HU0 := Lib.hid (Turns.refl HT0.out.now)
  by_cases hc : code = 0
  · subst hc
    have l0 : (eN 0).length ≤ 10 := eN_len (by decide) (by decide)
    have l1 : (eN n).length ≤ 10 := eN_len k3 (by omega)
    have l2 : (eN (m : Int)).length ≤ 10 := eN_len (by omega) (by omega)
    have HNA := Lib.hid (fun W (h : (rw_ A m c xs g v bs).holds W) => wr_num g v bs 0 W h.2.1 (by decide) (by decide) (by omega))
    have HNB := Lib.hid (fun v' W (h : (rw_ A m c xs g v' (bs ++ eN 0)).holds W) => wr_num g v' (bs ++ eN 0) n W h.2.1 k3 (by omega) (by rw [List.length_append]; omega))
    have HNC := Lib.hid (fun v' W (h : (rw_ A m c xs g v' (bs ++ eN 0 ++ eN n)).holds W) => wr_num g v' (bs ++ eN 0 ++ eN n) m W h.2.1 (by omega) (by omega) (by rw [List.length_append, List.length_append]; omega))
    have HE : Hid (bs ++ eR 0 n xs = bs ++ eN 0 ++ eN n ++ eN (m : Int) ++ (xs.map eT).flatten) := Lib.hid (by unfold eR; rw [if_pos rfl, hm]; simp only [List.append_assoc])
    obtain ⟨R, hR⟩ : ∃ R, R = bs ++ eR 0 n xs := ⟨_, rfl⟩
    rw [← hR]
    rw [← hR] at HE
    clear hR
    obtain ⟨b3, hb3⟩ : ∃ b3, b3 = bs ++ eN 0 ++ eN n ++ eN (m : Int) := ⟨_, rfl⟩
    have hl3 : b3.length ≤ 1030 := by rw [hb3, List.length_append, List.length_append, List.length_append]; omega
    rw [← hb3] at HE
    have HB3 := Lib.hid hb3
    have HLB : Hid (∀ i, i ≤ m → (b3 ++ ((xs.take i).map eT).flatten).length ≤ 1030 + 74 * i) := Lib.hid <| by
      intro i
      induction i with
      | zero => intro _; simpa using hl3
      | succ i ih =>
        intro hi
        have h1 := ih (by omega)
        have hx : i < xs.length := by omega
        rw [List.take_succ_eq_append_getElem hx, List.map_append, List.flatten_append, ← List.append_assoc, List.length_append]
        have h2 := eT_len (k6 xs[i] (List.getElem_mem hx))
        simp only [List.map_cons, List.map_nil, List.flatten_cons, List.flatten_nil, List.append_nil]
        omega
    have HXT := Lib.hid (fun i (hi : i < xs.length) v' W (h : (rw_ A m c xs g v' (b3 ++ ((xs.take i).map eT).flatten)).holds W) => wr_text g v' (b3 ++ ((xs.take i).map eT).flatten) xs[i] W h.2.1 (k6 _ (List.getElem_mem hi)) (by have := HLB.out i (by omega); omega))
    have HSI := Lib.hid (fun W v' bs' (h : (rw_ A m c xs g v' bs').holds W) i (hi : i < xs.length) => src_at (Src.of_own (show W.ownsRow 0 9 1 (.slice A m c) m (xs.map Value.string) from h.1)) i hi)
    have hm8 : m ≤ 8 := by omega
    clear k1 k2 k3 k4 k5 k6 l0 l1 l2 hb hb3 hl3 hm
    go_enter Try.func87, Try.ntmps87
    go_wp2_with (first
      | (go_at_call 102; (with_reducible refine (HCK.out _ HT0.out.now).mono ?_); rintro e w1 ⟨rfl, hc1⟩; have HU1 := Lib.hid (HU0.out.kept hc1); obtain ⟨q0, q1, q2⟩ := HST.out _ _ HU1.out; clear hc1)
      | (go_at_call 59; (with_reducible refine (HNA.out _ HU1.out.now).mono ?_); rintro e w2 ⟨rfl, v2, ht2⟩; have HU2 := Lib.hid (rw_w HU1.out ht2); clear ht2; clear q0 q1 q2; obtain ⟨q0, q1, q2⟩ := HST.out _ _ HU2.out)
      | (go_at_call 59; (with_reducible refine (HNB.out _ _ HU2.out.now).mono ?_); rintro e w3 ⟨rfl, v3, ht3⟩; have HU3 := Lib.hid (rw_w HU2.out ht3); clear ht3; clear q0 q1 q2; obtain ⟨q0, q1, q2⟩ := HST.out _ _ HU3.out)
      | (go_at_call 59; (with_reducible refine (HNC.out _ _ HU3.out.now).mono ?_); rintro e w4 ⟨rfl, v4, ht4⟩; have HU4 := Lib.hid (rw_w HU3.out ht4); clear ht4; clear q0 q1 q2; obtain ⟨q0, q1, q2⟩ := HST.out _ _ HU4.out))
    rw [HB3.out.symm] at HU4
    go_loopw [30] (fun x30 wr => ∃ (i : Nat) (v' : Value), x30 = .int .i64 i ∧ i ≤ m ∧ Turns (w.alloc (.cells #[.int .i64 0, .int .i64 n, .slice A m c] 73)) wr (rw_ A m c xs g v bs) (rw_ A m c xs g v' (b3 ++ ((xs.take i).map eT).flatten))) (fun x30 _ => m - (intOf x30).toNat)
    case atStart => exact ⟨0, v4, rfl, Nat.zero_le _, by simpa using HU4.out⟩
    case round =>
      clear HU4 HU3 HU2 HU1 q0 q1 q2
      obtain ⟨i, v5, rfl, hi, ht⟩ := hrel
      have HT := Lib.hid ht
      clear ht
      by_cases hlt : i < m
      · have hd : decide ((i : Int) < (m : Int)) = true := by simp; omega
        have hd' : decide (i < m) = true := by simpa using hlt
        have hil : i < xs.length := by rw [HM.out]; exact hlt
        obtain ⟨ad, rfl, hc⟩ := HSI.out _ _ _ HT.out.now i hil
        have HX := Lib.hid (fun W h => HXT.out i hil v5 W h)
        have HNX : Hid (b3 ++ ((xs.take i).map eT).flatten ++ eT xs[i] = b3 ++ ((xs.take (i + 1)).map eT).flatten) := Lib.hid (by
          rw [List.take_succ_eq_append_getElem hil, List.map_append, List.flatten_append, ← List.append_assoc]; simp)
        generalize xs[i] = b at *
        clear hil
        go_wp2_with (go_at_call 61; (with_reducible refine (HX.out _ HT.out.now).mono ?_); rintro e w6 ⟨rfl, v6, ht6⟩; have HU6 := Lib.hid (rw_w HT.out ht6); clear ht6)
        rw [HNX.out] at HU6
        go_roundw
        case rel => exact ⟨i + 1, v6, by simp, by omega, HU6.out⟩
        case measure => simp [intOf]; omega
      · have hd : decide ((i : Int) < (m : Int)) = false := by simp; omega
        have hd' : decide (i < m) = false := by simpa using hlt
        have he : xs.take i = xs := List.take_of_length_le (by rw [HM.out]; omega)
        rw [he, ← HE.out] at HT
        clear he
        go_wp2_with fail
        go_end0
        exact ⟨rfl, v5, HT0.out.trans HT.out⟩
  · have e1 : (code != 0) = true := by simpa using hc
    have HN := Lib.hid (fun W (h : (rw_ A m c xs g v bs).holds W) => wr_num g v bs code W h.2.1 k0 (by omega) (by omega))
    have e2 : eR code n xs = eN code := by unfold eR; rw [if_neg hc, List.append_nil]
    rw [e2]
    clear e2 hc k3
    go_enter Try.func87, Try.ntmps87
    go_wp2_with (first
      | (go_at_call 102; (with_reducible refine (HCK.out _ HT0.out.now).mono ?_); rintro e w1 ⟨rfl, hc1⟩; have HU1 := Lib.hid (HU0.out.kept hc1); obtain ⟨q0, q1, q2⟩ := HST.out _ _ HU1.out; clear hc1)
      | (go_at_call 59; (with_reducible refine (HN.out _ HU1.out.now).mono ?_); rintro e w2 ⟨rfl, v2, ht2⟩; have HU2 := Lib.hid (rw_w HU1.out ht2); obtain ⟨x0, x1, x2⟩ := HST.out _ _ HU2.out))
    refine bodyPost_ret (results_none rfl _ _ _) rfl ⟨rfl, v2, HT0.out.trans HU2.out⟩
end Go.Proofs.Ytkpgdonpmfebaaa.Rl

/- An append of one where the row is near the platform's bound. -/
namespace Go.Hp
open Go.RowKit Go.Hp
set_option linter.unusedSimpArgs false
set_option linter.unusedVariables false
section
variable {P : Program} (w : World)
theorem run_append_near (t ty e : TypeId) (i : TypeInfo) (z : Value) (bytes : Nat) (ht : P.underlying t = some (.slice e)) (hi : P.info? e = some i) (hz : i.zero = some z)
    (hsize : i.size = 1) (hby : i.bytes = bytes) (hzs : z.cells.size = 1)
    (v : Value) (n : Nat) (xs : List Value) (hown : w.ownsRow 0 e 1 v n xs)
    (a : Addr) (m c : Nat) (news : List Value) (hl : news.length = m) (hnews : ∀ j u, news[j]? = some u → w.cell? (a.add j) = some u) (h1 : ∀ u ∈ news, u.oneCell' = true)
    (h63 : n + m ≤ maxLen) (hbytes : ((n + m) + (n + m) / 4 + 192) * bytes ≤ 281474976710656) :
    ∃ v' w', (Builtin.append_ #[t, t] ty #[v, .slice (some a) m c]).run P w = .ok v' w' ∧ w'.ownsRow 0 e 1 v' (n + m) (xs ++ news) ∧ w.grownBy w' v.ownBlock ∧
      (∀ b, v'.ownBlock = some b → v.ownBlock = some b ∨ w.heap.size ≤ b) := by
  obtain ⟨v', w', hr, k1, k2, _⟩ := run_append_own_wide (P := P) w 0 t ty e i z 1 bytes ht hi hz hsize hby hzs (by omega) v n xs hown a m c news (by omega) hnews h1 h63 hbytes (Nat.zero_le _)
  refine ⟨v', w', hr, k1, k2, ?_⟩
  rcases hown.2 with ⟨rfl, rfl⟩ | ⟨g', cap, cur, rfl, hbg, hh, hnc, hcm, hcs, htake⟩
  · obtain ⟨v2, w2, hr2, j1, _, _⟩ := run_append_own_wide (P := P) w w.heap.size t ty e i z 1 bytes ht hi hz hsize hby hzs (by omega) (.slice none 0 0) 0 xs ⟨hown.1, Or.inl ⟨rfl, rfl⟩⟩ a m c news (by omega) hnews h1 h63 hbytes (Nat.le_refl _)
    rw [hr] at hr2
    injection hr2 with e1 e2
    subst e1
    intro b hb
    right
    rcases j1.2 with ⟨rfl, _⟩ | ⟨g, cap, cur, rfl, hbg, _⟩
    · cases hb
    · have : g = b := by simpa [Value.ownBlock] using hb
      omega
  · by_cases hroom : n + m ≤ cap
    · obtain ⟨w2, hr2, hk2, _⟩ := run_append_fits (P := P) w 0 t ty e i 1 ht hi hsize g' n cap xs hown a m c news (by omega) hnews h1 hroom
      rw [hr] at hr2
      injection hr2 with e1 e2
      subst e1
      intro b hb
      exact Or.inl hb
    · have holds : ∀ j u, xs[j]? = some u → w.cell? ((⟨g', 0, none⟩ : Addr).add j) = some u := World.ownsRow.cells (g := g') hown rfl
      have hxl : xs.length = n := by have := hown.1; omega
      have hr2 := run_append_grow (P := P) w t ty e i z ht hi hz ⟨g', 0, none⟩ n cap xs (by rw [hsize]; omega) holds a m c news (by rw [hsize]; omega) hnews (by omega) (by simp only [maxLen] at h63; omega) (growslice_fits_wide (by omega) (by rw [hby]; exact hbytes))
      rw [hr] at hr2
      injection hr2 with e1 e2
      subst e1
      intro b hb
      right
      have : w.heap.size = b := by simpa [Value.ownBlock] using hb
      omega
/-- One element behind a row, near the bound. -/
theorem wpList_app1W {ops : Array Oper} {rest : List Oper} {o : Oper} {a : Act} {Q : Exit → Act → World → Prop} (hgd : o.guard = none) (s x : Operand) (t : TypeId)
    (ho : o.op = .call { callee := .builtin .append, args := #[s, x], argTypes := #[t, t] })
    (e : TypeId) (i : TypeInfo) (z : Value) (bytes : Nat) (ht : P.underlying t = some (.slice e)) (hi : P.info? e = some i) (hz : i.zero = some z)
    (hsize : i.size = 1) (hby : i.bytes = bytes) (hzs : z.cells.size = 1)
    (v : Value) (n : Nat) (xs : List Value) (hs : a.eval s = v) (u0 : Value) (T : TypeId) (b0 : Nat) (hx : a.eval x = .slice (some ⟨b0, 0, none⟩) 1 1) (hb0 : b0 = w.heap.size) (hown : w.ownsRow 0 e 1 v n xs)
    (h1 : u0.oneCell' = true) (h63 : n + 1 ≤ maxLen) (hbytes : ((n + 1) + (n + 1) / 4 + 192) * bytes ≤ 281474976710656)
    (h : ∀ g c w', n + 1 ≤ c → Turns w w' (Own.row e 1 v n xs) (Own.row e 1 (.slice (some ⟨g, 0, none⟩) (n + 1) c) (n + 1) (xs ++ [u0])) →
      wpList P ops Q rest (a.put o.dst (.slice (some ⟨g, 0, none⟩) (n + 1) c)) w') :
    wpList P ops Q (o :: rest) a (w.alloc (.cells #[u0] T)) := by
  subst hb0
  have hT : Turns w (w.alloc (.cells #[u0] T)) (Own.row e 1 v n xs) (Own.row e 1 v n xs) := Turns.alloc (Turns.refl (O := Own.row e 1 v n xs) hown) _
  refine wpList_plain hgd fun K hK => ?_
  obtain ⟨v', w', hr, h2, h3, h4⟩ := run_append_near (P := P) (w.alloc (.cells #[u0] T)) t o.type e i z bytes ht hi hz hsize hby hzs v n xs hT.now ⟨w.heap.size, 0, none⟩ 1 1 [u0] rfl (cell_one_new w u0 T) (by simpa using h1) h63 hbytes
  unfold Oper.wp execOp
  simp only [ho, resolve, invoke, builtin, Sem.run_bind, Sem.run_pure, Result.andThen_ok, List.map_toArray, List.map_cons, List.map_nil, hs, hx, hr]
  obtain ⟨g, c, rfl, _, hc⟩ := row_form h2 (by omega)
  exact hK _ _ (h g c w' hc (hT.trans ⟨Chg.of_grown h3, h2, h4⟩))
end
end Go.Hp

/- The law's kept lists of bytes: they are written all over, and grow. -/
namespace Go.Proofs.Ytkpgdonpmfebaaa.Bt.Kb
open Go.RowKit Go.Hp
set_option linter.unusedSimpArgs false
set_option linter.unusedVariables false
set_option maxRecDepth 100000
attribute [local go_sem] min2_lean min_two max2_lean max_two
theorem bvx {v : Int} (h : 0 ≤ v ∧ v < 256) : (Value.int .u8 v) = bv (UInt8.ofNat v.toNat) := by
  unfold bv
  have : ((UInt8.ofNat v.toNat).toNat : Int) = v := by
    rw [UInt8.toNat_ofNat', Nat.mod_eq_of_lt (by omega)]
    omega
  rw [this]
theorem Gd.set {xs : List Value} (h : Gd xs) (j : Nat) {v : Int} (hv : 0 ≤ v ∧ v < 256) : Gd (xs.set j (.int .u8 v)) := by
  obtain ⟨zs, rfl⟩ := h
  exact ⟨zs.set j (UInt8.ofNat v.toNat), by rw [List.map_set, bvx hv]⟩
theorem Gd.snoc {xs : List Value} (h : Gd xs) {v : Int} (hv : 0 ≤ v ∧ v < 256) : Gd (xs ++ [.int .u8 v]) := by
  obtain ⟨zs, rfl⟩ := h
  exact ⟨zs ++ [UInt8.ofNat v.toNat], by rw [List.map_append, bvx hv]; rfl⟩
theorem upd_four {ι : Type} [DecidableEq ι] {F : ι → Hp.Own} {i j : ι} (hne : i ≠ j) (A B A' B' : Hp.Own) : upd (upd (upd (upd F i A) j B) i A') j B' = upd (upd F i A') j B' := by
  funext x
  unfold upd
  by_cases h1 : x = j
  · simp [h1]
  · by_cases h2 : x = i
    · simp [h1, h2, hne]
    · simp [h1, h2]
theorem Turns.world {w W W' : World} {O O' : Hp.Own} (h : Turns w W O O') (e : W = W') : Turns w W' O O' := e ▸ h
theorem holds_wx (k : KS) (f : Nat → List Value) (N d : Nat) (w : World) (h : (own (k.wx f) N d).holds w) (hd : d ≤ N) (hg : Okk (k.wx f) (N + d)) (hN : N + d ≤ 7036874417562) :
    Calls Try.prog 22 #[.pointer (some ⟨k.g, 0, none⟩)] w fun e w' => e = .returned (.bool true) ∧ Chg (fun _ => False) w w' := holds_any (k.wx f) N d w h hd hg hN
set_option maxHeartbeats 2000000 in
theorem spoil_any (k : KS) (N : Nat) (w : World) (h : (own k N 0).holds w) (hg : ∀ i, i < N → Gd (k.xs i) ∧ k.len i ≤ 140737488351232) (hN : N ≤ 3518437208781) :
    Calls Try.prog 23 #[.pointer (some ⟨k.g, 0, none⟩)] w fun e w' => e = .returned (.bool true) ∧ Chg (own k N 0).foot w w' := by
  obtain ⟨ij, hij, hzaj, hzbj, hzcj⟩ := info_parts Try.info5
  obtain ⟨is, his, hzas, hzbs, hzcs⟩ := info_parts Try.info38
  have HHO := Lib.hid (fun f W h1 (h2 : ∀ i, i < N → Gd (f i)) => holds_wx k f N 0 W h1 (Nat.zero_le _) (fun i hi => ⟨h2 i (by omega), Nat.le_trans (hg i (by omega)).2 (by decide)⟩) (by omega))
  have HLEN := Lib.hid (fun i hi => (hg i hi).2)
  have HG0 := Lib.hid (fun i hi => (hg i hi).1)
  obtain ⟨Ao, co, hov⟩ := row_slice (KS.outs h)
  obtain ⟨Aw, cw, hwv⟩ := row_slice (KS.wants h)
  rw [Nat.add_zero] at hov hwv
  have HOV := Lib.hid hov
  have HWV := Lib.hid hwv
  have H0 := Lib.hid h
  have H0x := Lib.hid (show (own (k.wx k.xs) N 0).holds w from h)
  clear h hg hov hwv
  go_enter Try.func23, Try.ntmps23
  have HT1 := Lib.hid (Turns.refl H0.out)
  have hb := (KS.box H0.out).cell 0
  rw [HOV.out] at hb
  simp only [List.getElem?_toArray, List.getElem?_cons_succ, List.getElem?_cons_zero] at hb
  go_wp2_with fail
  go_loopw [4] (fun x5 wr => ∃ (i : Nat) (f : Nat → List Value), x5 = .int .i64 i ∧ i ≤ N ∧ (∀ j, j < N → Gd (f j)) ∧ Turns w wr (own k N 0) (own (k.wx f) N 0)) (fun x5 _ => N - (intOf x5).toNat)
  case atStart => exact ⟨0, k.xs, rfl, Nat.zero_le _, HG0.out, HT1.out⟩
  case round =>
    obtain ⟨i, f, rfl, hin, hgf, ht⟩ := hrel
    have HGF := Lib.hid hgf
    have HT := Lib.hid ht
    clear hgf ht hb
    by_cases hlt : i < N
    · have hd : decide ((i : Int) < (N : Int)) = true := by simp; omega
      have hd' : decide (i < N) = true := by simp; omega
      have hln := HLEN.out i hlt
      obtain ⟨n, hn⟩ : ∃ n, k.len i = n := ⟨_, rfl⟩
      rw [hn] at hln
      have HNN := Lib.hid hn
      clear hn
      go_wp2_with fail
      go_loopw [5] (fun x6 wr => ∃ (j : Nat) (f : Nat → List Value), x6 = .int .i64 j ∧ j ≤ n ∧ (∀ j, j < N → Gd (f j)) ∧ Turns w wr (own k N 0) (own (k.wx f) N 0)) (fun x6 _ => n - (intOf x6).toNat)
      case atStart => exact ⟨0, f, rfl, Nat.zero_le _, HGF.out, HT.out⟩
      case round =>
        clear HT HGF
        obtain ⟨j, f, rfl, hjn, hgf, ht⟩ := hrel
        have HGF := Lib.hid hgf
        have HT := Lib.hid ht
        clear hgf ht
        obtain ⟨go, co', gw, cw', e1, e2, c0, c1⟩ := KS.at_ HT.out.now (i := i) (by omega)
        have e1' := HOV.out.symm.trans e1
        have e2' := HWV.out.symm.trans e2
        obtain ⟨rfl, hn1, rfl⟩ := Value.slice.inj e1'
        obtain ⟨rfl, hn2, rfl⟩ := Value.slice.inj e2'
        clear hn1 hn2
        have b0 : wr.cell? ⟨k.g, 0, none⟩ = some (.slice (some ⟨go, 0, none⟩) N co) := by have h := (KS.box HT.out.now).cell 0; rw [e1] at h; exact h
        have b1 : wr.cell? ⟨k.g, 1, none⟩ = some (.slice (some ⟨gw, 0, none⟩) N cw) := by have h := (KS.box HT.out.now).cell 1; rw [e2] at h; exact h
        by_cases hlj : j < n
        · have hd2 : decide ((j : Int) < (n : Int)) = true := by simp; omega
          have hd3 : decide (j < n) = true := by simp; omega
          obtain ⟨bo, cc, bw, cd, a1, a2, r1, r2, (n1 : bo ≠ k.g), (n2 : bw ≠ k.g), n3, n4, n5⟩ := KS.apart HT.out.now hlt (show 0 < (k.wx f).len i by rw [show (k.wx f).len i = n from HNN.out]; omega)
          have m4 := n4 _ _ _ e2
          have m5 := n5 _ _ _ e1
          have hmark := KS.mark HT.out.now hlt a1 a2 j
          have HMARK := Lib.hid hmark
          rw [show (k.wx f).len i = n from HNN.out] at a1 a2 r1 r2
          rw [a1] at c0
          rw [a2] at c1
          have hxl : j < ((k.wx f).xs i).length := by have := r1.1; omega
          obtain ⟨p1, p2⟩ := row_at r1 j (List.getElem?_eq_getElem hxl)
          obtain ⟨p3, p4⟩ := row_at r2 j (List.getElem?_eq_getElem hxl)
          generalize ((k.wx f).xs i)[j] = uu at *
          clear r1 r2 hxl n4 n5 e1 e2 e1' e2' hmark
          go_wp2_with fail
          go_roundw
          case rel =>
            refine ⟨j + 1, fun x => if x = i then (f i).set j (.int .u8 (((i : Int) * 7 + 1) % 256)) else f x, by simp, by omega, fun x hx => ?_, ?_⟩
            · show Gd (if x = i then _ else f x)
              by_cases hxi : x = i
              · rw [if_pos hxi]; exact (HGF.out i (by omega)).set _ (by omega)
              · rw [if_neg hxi]; exact HGF.out x hx
            · exact HT.out.trans (HMARK.out _)
          case measure => simp [intOf]; omega
        · have hd2 : decide ((j : Int) < (n : Int)) = false := by simp; omega
          have hd3 : decide (j < n) = false := by simp; omega
          obtain ⟨X, cx, hX⟩ := (KS.reads HT.out.now (Nat.zero_le _) (i := i) (by omega)).1.len
          rw [show (k.wx f).len i = n from HNN.out] at hX
          rw [hX] at c0
          clear e1 e2 e1' e2' hX
          go_wp2_with fail
          go_roundw
          case rel => exact ⟨i + 1, f, by simp, by omega, HGF.out, HT.out⟩
          case measure => simp [intOf]; omega
    · have hd : decide ((i : Int) < (N : Int)) = false := by simp; omega
      have hd' : decide (i < N) = false := by simp; omega
      go_wp2_with (first
        | (go_at_call 22; (with_reducible refine (HHO.out f _ HT.out.now HGF.out).mono ?_); rintro r w2 ⟨rfl, hc2⟩; have HT2 := Lib.hid (HT.out.kept hc2); clear hc2))
      have HB := Lib.hid HLEN.out
      go_loopw [7] (fun x7 wr => ∃ (d : Nat) (k' : KS), x7 = .int .i64 d ∧ d ≤ N ∧ k'.g = k.g ∧ (∀ i, i < N → k'.len i ≤ 140737488351232) ∧ Okk k' (N + d) ∧ Turns w wr (own k N 0) (own k' N d)) (fun x7 _ => N - (intOf x7).toNat)
      case atStart => exact ⟨0, k.wx f, rfl, Nat.zero_le _, rfl, HLEN.out, fun j hj => ⟨HGF.out j hj, Nat.le_trans (HLEN.out j hj) (by decide)⟩, HT2.out⟩
      case round =>
        clear HT2 HT HGF HG0 H0x
        obtain ⟨d, k', rfl, hdN, hkg, hkl, hok, ht⟩ := hrel
        have HKG := Lib.hid hkg
        have HKL := Lib.hid hkl
        have HOK := Lib.hid hok
        have HT := Lib.hid ht
        obtain ⟨Ao, co, hov⟩ := row_slice (KS.outs ht.now)
        obtain ⟨Aw, cw, hwv⟩ := row_slice (KS.wants ht.now)
        clear hkg hkl hok ht
        by_cases hlt : d < N
        · have hd : decide ((d : Int) < (N : Int)) = true := by simp; omega
          have hd' : decide (d < N) = true := by simp; omega
          obtain ⟨M, hM⟩ : ∃ M, N + d = M := ⟨_, rfl⟩
          have HM := Lib.hid hM
          have hdM : d < M := by omega
          have hMb : M ≤ 7036874417562 := by omega
          obtain ⟨n, hn⟩ : ∃ n, k'.len d = n := ⟨_, rfl⟩
          have hnb := HKL.out d hlt
          rw [hn] at hnb
          have HNN := Lib.hid hn
          obtain ⟨xs, hxs⟩ : ∃ xs, k'.xs d = xs := ⟨_, rfl⟩
          have hgx := (HOK.out d (by omega)).1
          rw [hxs] at hgx
          have HGX := Lib.hid hgx
          have HXS := Lib.hid hxs
          obtain ⟨go, co', gw, cw', e1, e2, c0, c1⟩ := KS.at_ HT.out.now (i := d) (by omega)
          have b0 : wr.cell? ⟨k.g, 0, none⟩ = some (.slice (some ⟨go, 0, none⟩) M co') := by have h := (KS.box HT.out.now).cell 0; rw [e1, HKG.out, hM] at h; exact h
          have b1 : wr.cell? ⟨k.g, 1, none⟩ = some (.slice (some ⟨gw, 0, none⟩) M cw') := by have h := (KS.box HT.out.now).cell 1; rw [e2, HKG.out, hM] at h; exact h
          obtain ⟨s1, s2⟩ := KS.reads HT.out.now (by omega) (i := d) (by omega)
          obtain ⟨X, cx, hX⟩ := s1.len
          obtain ⟨Y, cy, hY⟩ := s2.len
          rw [hn] at hX hY
          rw [hX] at c0
          rw [hY, hn, hxs] at s2
          rw [hY] at c1
          have hrow := HT.out.now.1 (.c d)
          simp only [KS.fam, if_pos (show d < N + d by omega)] at hrow
          have hYb := Own.lt _ hrow
          rw [hY] at hYb
          have HCO := Lib.hid (copied_src Y n cy xs wr s2 hYb HGX.out (by omega))
          have HX := Lib.hid hX
          rw [hM] at e1 e2
          have HE1 := Lib.hid e1
          have HE2 := Lib.hid e2
          clear s1 s2 hX hY hrow hYb hgx hn hxs hM hov hwv e1 e2
          go_wp2_with (first
            | (go_at_call 70; (with_reducible refine HCO.out.mono ?_); rintro r w6 ⟨Z, cz, rfl, ht6⟩; have HT6 := Lib.hid ht6; clear ht6))
          have HS0 : Hid (Turns w w6 (own k N 0) (Own.fam (upd (upd (k'.fam 34 38 5 N d) (.o d) (Own.pre 5 (.slice X n cx) n xs (.slice X (n + 0) cx) (n + 0) (xs ++ []))) (.c (N + d)) (Hp.Own.row 5 1 (.slice Z (n + 0) cz) (n + 0) (xs ++ []))))) := by
            have hF : k'.fam 34 38 5 N d (.o d) = Hp.Own.row 5 1 (.slice X n cx) n xs := by simp only [KS.fam, if_neg (Nat.lt_irrefl d), if_pos hlt]; rw [HX.out, HNN.out, HXS.out]
            have hr := HT.out.now.1 (.o d)
            rw [hF] at hr
            have t1 := Turns.famE HT.out.now (.o d) hF (Turns.pre_start hr)
            have t2 := Turns.famE t1.now (.c (N + d)) (O := Hp.Own.emp) (by simp [upd, KS.fam]) HT6.out
            rw [List.append_nil, Nat.add_zero]
            exact Lib.hid (HT.out.trans (t1.trans t2))
          go_loopw [8, 9, 10] (fun x8 x9 x10 wr => ∃ (j m : Nat) (X' : Option Addr) (cx' : Nat) (Z' : Option Addr) (cz' : Nat) (ts : List Value), x10 = .int .i64 j ∧ j ≤ 12 ∧ m = n + j ∧ x8 = .slice X' m cx' ∧ x9 = .slice Z' m cz' ∧ Gd (xs ++ ts) ∧
            Turns w wr (own k N 0) (Own.fam (upd (upd (k'.fam 34 38 5 N d) (.o d) (Own.pre 5 (.slice X n cx) n xs (.slice X' m cx') m (xs ++ ts))) (.c (N + d)) (Hp.Own.row 5 1 (.slice Z' m cz') m (xs ++ ts))))) (fun _ _ x10 _ => 12 - (intOf x10).toNat)
          case atStart => exact ⟨0, n, X, cx, Z, cz, [], rfl, by omega, rfl, rfl, rfl, by rw [List.append_nil]; exact HGX.out, HS0.out⟩
          case round =>
            clear HS0 HT6 HCO c0 c1 b0 b1
            obtain ⟨j, m, X', cx', Z', cz', ts, rfl, hj, hm, rfl, rfl, hgt, ht⟩ := hrel
            have HGT := Lib.hid hgt
            have HTJ := Lib.hid ht
            have HMM := Lib.hid hm
            have hmb : m ≤ 140737488351260 := by omega
            have hpre : (Own.pre 5 (.slice X n cx) n xs (.slice X' m cx') m (xs ++ ts)).holds wr := by
              have := ht.now.1 (.o d)
              simpa only [upd, reduceCtorEq, if_false, if_true] using this
            have HP := Lib.hid hpre
            have hro : (Hp.Own.row 5 1 (.slice Z' m cz') m (xs ++ ts)).holds wr := by
              have := ht.now.1 (.c (N + d))
              simpa only [upd, reduceCtorEq, if_false, if_true] using this
            clear hgt ht hm hpre
            by_cases hlj : j < 12
            · have hd2 : decide ((j : Int) < 12) = true := by simp; omega
              have hd3 : decide (j < 12) = true := by simp; omega
              have hdb : d ≤ 3518437208781 := by omega
              go_wp2_with (first
                | ((at_builtin; refine wpList_appK _ rfl (.tmp 85) (.tmp 90) 38 rfl 5 ij (.int .u8 0) 1 Try.underlying38 hij hzaj hzbj hzcj rfl (.slice X' m cx') m (xs ++ ts) rfl _ _ _ rfl (by first | rfl | simp) (Own.pre_row HP.out) (by simp [Value.oneCell']) (by simp only [maxLen]; omega) (by omega) ?_; intro g7 c7 w7 hc7 ht7 hs7 hn7; have HT7 := Lib.hid ht7; have HS7 := Lib.hid hs7; have HN7 := Lib.hid hn7; clear ht7 hs7 hn7); have HTP := Lib.hid (Turns.pre HP.out HT7.out HS7.out (by rcases HN7.out with h | h; exact Or.inl h; exact Or.inr ⟨_, rfl, h⟩)); have HF7 := Lib.hid (HTJ.out.trans (Turns.famE HTJ.out.now (.o d) (by simp only [upd, reduceCtorEq, if_false, if_true]) HTP.out)); have hrz : (Hp.Own.row 5 1 (.slice Z' m cz') m (xs ++ ts)).holds w7 := (by have := HF7.out.now.1 (.c (N + d)); simpa only [upd, reduceCtorEq, if_false, if_true] using this); have HRZ := Lib.hid hrz; clear hrz)
                | ((at_builtin; refine wpList_app1 _ rfl (.tmp 92) (.tmp 97) 38 rfl 5 ij (.int .u8 0) 1 1 Try.underlying38 hij hzaj hzbj hzcj rfl (by decide) (.slice Z' m cz') m (xs ++ ts) rfl _ _ _ rfl (by first | rfl | simp) HRZ.out rfl (by simp [Value.oneCell']) (by simp only [maxLen]; omega) (by omega) ?_; intro g8 c8 w8 hc8 ht8; have HT8 := Lib.hid ht8; clear ht8); have HF8 := Lib.hid (HF7.out.trans (Turns.famE HF7.out.now (.c (N + d)) (by simp only [upd, reduceCtorEq, if_false, if_true]) HT8.out))))
              go_roundw
              case rel =>
                refine ⟨j + 1, m + 1, _, _, _, _, ts ++ [.int .u8 (((d : Int) * 7 + 2) % 256)], by simp, by omega, by have := HMM.out; omega, rfl, rfl, by rw [← List.append_assoc]; exact HGT.out.snoc (by omega), ?_⟩
                have h := HF8.out
                rw [upd_four (by simp), List.append_assoc] at h
                exact h
              case measure => simp [intOf]; omega
            · have hd2 : decide ((j : Int) < 12) = false := by simp; omega
              have hd3 : decide (j < 12) = false := by simp; omega
              have hB : Blk wr k'.g #[k'.ov, k'.wv] 34 := HTJ.out.now.1 .box
              have HBX := Lib.hid hB
              have b0 : wr.cell? ⟨k.g, 0, none⟩ = some (.slice (some ⟨go, 0, none⟩) M co') := by have h := hB.cell 0; rw [HE1.out, HKG.out] at h; exact h
              have HOO : Hid (wr.ownsRow 0 38 1 (.slice (some ⟨go, 0, none⟩) M co') M ((List.range M).map k'.out)) := by
                have h : wr.ownsRow 0 38 1 k'.ov (N + d) ((List.range (N + d)).map k'.out) := HTJ.out.now.1 .outs
                rw [HE1.out, HM.out] at h
                exact Lib.hid h
              clear hB
              go_wp2_with (first
                | ((at_builtin; refine wpList_app1W _ rfl (.tmp 103) (.tmp 105) 32 rfl 38 is (.slice none 0 0) 24 Try.underlying32 his hzas hzbs hzcs rfl (.slice (some ⟨go, 0, none⟩) M co') M ((List.range M).map k'.out) rfl _ _ _ rfl (by first | rfl | simp) HOO.out rfl (by simp only [maxLen]; omega) (by omega) ?_; intro g7 c7 w7 hc7 ht7; have HT7 := Lib.hid ht7; clear ht7); have HF7 := Lib.hid (HTJ.out.trans (Turns.famE HTJ.out.now .outs (by show Hp.Own.row _ _ k'.ov (N + d) ((List.range (N + d)).map k'.out) = _; rw [HE1.out, HM.out]) HT7.out)); have hB7 : Blk w7 k'.g #[k'.ov, k'.wv] 34 := HF7.out.now.1 .box; have b07 : w7.cell? ⟨k.g, 0, none⟩ = some (.slice (some ⟨go, 0, none⟩) M co') := (by have h := hB7.cell 0; rw [HE1.out, HKG.out] at h; exact h); have b17 : w7.cell? ⟨k.g, 1, none⟩ = some (.slice (some ⟨gw, 0, none⟩) M cw') := (by have h := hB7.cell 1; rw [HE2.out, HKG.out] at h; exact h); have f07 : w7.frozen? ⟨k.g, 0, none⟩ = false := (by have h := hB7.frozen 0; rw [HKG.out] at h; exact h); have hl7 : k.g < w7.heap.size := (by have h := hB7.lt; rw [HKG.out] at h; exact h); have HFB := Lib.hid (Turns.world (HF7.out.trans (Turns.famE HF7.out.now .box (O := Hp.Own.blk k'.g #[k'.ov, k'.wv] 34) rfl (Turns.blk_set hB7 0 (.slice (some ⟨g7, 0, none⟩) (M + 1) c7)))) (show w7.setCell ⟨k'.g, 0, none⟩ (.slice (some ⟨g7, 0, none⟩) (M + 1) c7) = w7.setCell ⟨k.g, 0, none⟩ (.slice (some ⟨g7, 0, none⟩) (M + 1) c7) from by rw [HKG.out])); clear hB7; have HWW : Hid ((w7.setCell ⟨k.g, 0, none⟩ (.slice (some ⟨g7, 0, none⟩) (M + 1) c7)).ownsRow 0 38 1 (.slice (some ⟨gw, 0, none⟩) M cw') M ((List.range M).map k'.want)) := (by have h : (w7.setCell ⟨k.g, 0, none⟩ (.slice (some ⟨g7, 0, none⟩) (M + 1) c7)).ownsRow 0 38 1 k'.wv (N + d) ((List.range (N + d)).map k'.want) := HFB.out.now.1 .wants; rw [HE2.out, HM.out] at h; exact Lib.hid h))
                | ((at_builtin; refine wpList_app1W _ rfl (.tmp 113) (.tmp 115) 32 rfl 38 is (.slice none 0 0) 24 Try.underlying32 his hzas hzbs hzcs rfl (.slice (some ⟨gw, 0, none⟩) M cw') M ((List.range M).map k'.want) rfl _ _ _ rfl (by first | rfl | simp) HWW.out rfl (by simp only [maxLen]; omega) (by omega) ?_; intro g8 c8 w8 hc8 ht8; have HT8 := Lib.hid ht8; clear ht8); have HF8 := Lib.hid (HFB.out.trans (Turns.famE HFB.out.now .wants (by show Hp.Own.row _ _ k'.wv (N + d) ((List.range (N + d)).map k'.want) = _; rw [HE2.out, HM.out]) HT8.out)); have hB8 : Blk w8 k'.g #[.slice (some ⟨g7, 0, none⟩) (M + 1) c7, k'.wv] 34 := HF8.out.now.1 .box; have b18 : w8.cell? ⟨k.g, 1, none⟩ = some (.slice (some ⟨gw, 0, none⟩) M cw') := (by have h := hB8.cell 1; rw [HE2.out, HKG.out] at h; exact h); have f18 : w8.frozen? ⟨k.g, 1, none⟩ = false := (by have h := hB8.frozen 1; rw [HKG.out] at h; exact h); have HFE := Lib.hid (Turns.world (HF8.out.trans (Turns.famE HF8.out.now .box (O := Hp.Own.blk k'.g #[.slice (some ⟨g7, 0, none⟩) (M + 1) c7, k'.wv] 34) rfl (Turns.blk_set hB8 1 (.slice (some ⟨g8, 0, none⟩) (M + 1) c8)))) (show w8.setCell ⟨k'.g, 1, none⟩ (.slice (some ⟨g8, 0, none⟩) (M + 1) c8) = w8.setCell ⟨k.g, 1, none⟩ (.slice (some ⟨g8, 0, none⟩) (M + 1) c8) from by rw [HKG.out])); clear hB8))
              go_roundw
              case rel =>
                refine ⟨d + 1, k'.add (N + d) (.slice (some ⟨g7, 0, none⟩) (M + 1) c7) (.slice (some ⟨g8, 0, none⟩) (M + 1) c8) (.slice X' m cx') (.slice Z' m cz') m (xs ++ ts), by simp, by omega, HKG.out, fun i hi => ?_, fun i hi => ?_, ?_⟩
                · show (if i = N + d then m else k'.len i) ≤ _
                  rw [if_neg (by omega)]
                  exact HKL.out i hi
                · show Gd (if i = N + d then xs ++ ts else k'.xs i) ∧ (if i = N + d then m else k'.len i) ≤ _
                  by_cases hi2 : i = N + d
                  · rw [if_pos hi2, if_pos hi2]
                    exact ⟨HGT.out, by omega⟩
                  · rw [if_neg hi2, if_neg hi2]
                    exact HOK.out i (by omega)
                · have h := HFE.out
                  refine h.to ?_
                  have hm' := HM.out
                  subst hm'
                  rw [← HX.out, ← HNN.out, ← HXS.out]
                  exact Own.fam_as (KS.grew k' _ _ _ N d hlt _ _ _ _ m _ _)
              case measure => simp [intOf]; omega
        · have hd : decide ((d : Int) < (N : Int)) = false := by simp; omega
          have hd' : decide (d < N) = false := by simp; omega
          obtain rfl : N = d := by omega
          have hho := holds_any k' N N wr HT.out.now (Nat.le_refl _) HOK.out (by omega)
          rw [HKG.out] at hho
          have HHE := Lib.hid hho
          clear hho hov hwv
          go_wp2_with (first
            | (go_at_call 22; (with_reducible refine HHE.out.mono ?_); rintro r w3 ⟨rfl, hc3⟩; have HT3 := Lib.hid (HT.out.kept hc3); clear hc3))
          go_ret
          exact ⟨rfl, HT3.out.chg⟩
end Go.Proofs.Ytkpgdonpmfebaaa.Bt.Kb

/- The law's helper write: an item laid down by the program and by the document. -/
namespace Go.Proofs.Ytkpgdonpmfebaaa.Bt
open Go.RowKit Go.Hp
attribute [local go_sem] min2_lean min_two max2_lean max_two
set_option linter.unusedSimpArgs false
set_option linter.unusedVariables false
set_option maxRecDepth 100000
/-- A pair of writers. -/
def pw (s x : WrS) : Hp.Own := Hp.Own.both s.own x.xown
def WrOk (s x : WrS) (it : ItA) (w : World) (r : Ending) (w' : World) : Prop := r = .returned (.bool true) ∧ ∃ v v', Turns w w' (pw s x) (pw (WrS.mk s.g v (wrB s.bs s.bad it).1 (wrB s.bs s.bad it).2) (WrS.mk x.g v' (wrB s.bs s.bad it).1 (wrB s.bs s.bad it).2))
theorem pw_left {s x s' : WrS} {w W W' : World} {O : Hp.Own} (h : Turns w W O (pw s x)) (t : Turns W W' s.own s'.own) : Turns w W' O (Hp.Own.both s'.own x.xown) := h.trans (Turns.left h.now t)
theorem pw_right {s x x' : WrS} {w W W' : World} {O : Hp.Own} (h : Turns w W O (Hp.Own.both s.own x.xown)) (t : Turns W W' x.xown x'.xown) : Turns w W' O (Hp.Own.both s.own x'.xown) := h.trans (Turns.rightT h.now t)
theorem pw_l {s x : WrS} {w : World} (h : (pw s x).holds w) : s.own.holds w := h.1
theorem pw_r {s x : WrS} {w : World} (h : (pw s x).holds w) : x.xown.holds w := h.2.1
theorem write_num (s x : WrS) (n : Int) (b : Bool) (t : ByteArray) (w : World) (h : (pw s x).holds w) (he : x.bs = s.bs) (hb : x.bad = s.bad) (h0 : -9223372036854775808 ≤ n) (h1 : n ≤ 9223372036854775807) (hl : s.bs.length + 10 ≤ 140737488355328) :
    Calls Try.prog 17 #[.pointer (some ⟨s.g, 0, none⟩), .pointer (some ⟨x.g, 0, none⟩), .agg (ItA.mk 1 n b t).cells] w (WrOk s x ⟨1, n, b, t⟩ w) := by
  have HC := Lib.hid ((Turns.refl h).alloc (.cells #[.int .i64 1, .int .i64 n, .bool b, .string t] 36))
  have HW := Lib.hid (w_num s (w.alloc (.cells #[.int .i64 1, .int .i64 n, .bool b, .string t] 36)) n b t (pw_l HC.out.now) h0 h1 hl)
  have HX := Lib.hid (fun W h => x_num x W n b t h h0 h1 (by rw [he]; exact hl))
  have HH := Lib.hid h
  unfold WP at HW
  unfold XP at HX
  rw [he, hb] at HX
  show Calls Try.prog 17 #[.pointer (some ⟨s.g, 0, none⟩), .pointer (some ⟨x.g, 0, none⟩), .agg #[.int .i64 1, .int .i64 n, .bool b, .string t]] w _
  clear h
  go_enter Try.func17, Try.ntmps17
  go_wp2_with (first
    | (go_at_call 59; (with_reducible refine HW.out.mono ?_); rintro r w1 ⟨rfl, v1, ht1⟩; have HT1 := Lib.hid (pw_left HC.out ht1); obtain ⟨q0, q1, q2, q3, -, -, -, -⟩ := Blk.four (Blk.beside (pw_l HH.out) (Blk.new w #[.int .i64 1, .int .i64 n, .bool b, .string t] 36) (Nat.le_refl _) ht1); clear ht1; have HX1 := Lib.hid (show x.xown.holds w1 from HT1.out.now.2.1))
    | (go_at_call 63; (with_reducible refine (HX.out _ HX1.out).mono ?_); rintro r w2 ⟨rfl, v2, ht2⟩; have HT2 := Lib.hid (pw_right HT1.out ht2); clear ht2))
  go_ret
  exact ⟨rfl, v1, v2, HT2.out⟩
theorem write_signed (s x : WrS) (n : Int) (b : Bool) (t : ByteArray) (w : World) (h : (pw s x).holds w) (he : x.bs = s.bs) (hb : x.bad = s.bad) (h0 : -9223372036854775808 ≤ n) (h1 : n ≤ 9223372036854775807) (hl : s.bs.length + 10 ≤ 140737488355328) :
    Calls Try.prog 17 #[.pointer (some ⟨s.g, 0, none⟩), .pointer (some ⟨x.g, 0, none⟩), .agg (ItA.mk 2 n b t).cells] w (WrOk s x ⟨2, n, b, t⟩ w) := by
  have HC := Lib.hid ((Turns.refl h).alloc (.cells #[.int .i64 2, .int .i64 n, .bool b, .string t] 36))
  have HW := Lib.hid (w_signed s (w.alloc (.cells #[.int .i64 2, .int .i64 n, .bool b, .string t] 36)) n b t (pw_l HC.out.now) h0 h1 hl)
  have HX := Lib.hid (fun W h => x_signed x W n b t h h0 h1 (by rw [he]; exact hl))
  have HH := Lib.hid h
  unfold WP at HW
  unfold XP at HX
  rw [he, hb] at HX
  show Calls Try.prog 17 #[.pointer (some ⟨s.g, 0, none⟩), .pointer (some ⟨x.g, 0, none⟩), .agg #[.int .i64 2, .int .i64 n, .bool b, .string t]] w _
  clear h
  go_enter Try.func17, Try.ntmps17
  go_wp2_with (first
    | (go_at_call 60; (with_reducible refine HW.out.mono ?_); rintro r w1 ⟨rfl, v1, ht1⟩; have HT1 := Lib.hid (pw_left HC.out ht1); obtain ⟨q0, q1, q2, q3, -, -, -, -⟩ := Blk.four (Blk.beside (pw_l HH.out) (Blk.new w #[.int .i64 2, .int .i64 n, .bool b, .string t] 36) (Nat.le_refl _) ht1); clear ht1; have HX1 := Lib.hid (show x.xown.holds w1 from HT1.out.now.2.1))
    | (go_at_call 64; (with_reducible refine (HX.out _ HX1.out).mono ?_); rintro r w2 ⟨rfl, v2, ht2⟩; have HT2 := Lib.hid (pw_right HT1.out ht2); clear ht2))
  go_ret
  exact ⟨rfl, v1, v2, HT2.out⟩
theorem write_bool (s x : WrS) (n : Int) (b : Bool) (t : ByteArray) (w : World) (h : (pw s x).holds w) (he : x.bs = s.bs) (hb : x.bad = s.bad) (hl : s.bs.length + 10 ≤ 140737488355328) :
    Calls Try.prog 17 #[.pointer (some ⟨s.g, 0, none⟩), .pointer (some ⟨x.g, 0, none⟩), .agg (ItA.mk 3 n b t).cells] w (WrOk s x ⟨3, n, b, t⟩ w) := by
  have HC := Lib.hid ((Turns.refl h).alloc (.cells #[.int .i64 3, .int .i64 n, .bool b, .string t] 36))
  have HW := Lib.hid (w_bool s (w.alloc (.cells #[.int .i64 3, .int .i64 n, .bool b, .string t] 36)) n b t (pw_l HC.out.now) hl)
  have HX := Lib.hid (fun W h => x_bool x W n b t h (by rw [he]; exact hl))
  have HH := Lib.hid h
  unfold WP at HW
  unfold XP at HX
  rw [he, hb] at HX
  show Calls Try.prog 17 #[.pointer (some ⟨s.g, 0, none⟩), .pointer (some ⟨x.g, 0, none⟩), .agg #[.int .i64 3, .int .i64 n, .bool b, .string t]] w _
  clear h
  go_enter Try.func17, Try.ntmps17
  go_wp2_with (first
    | (go_at_call 65; (with_reducible refine HW.out.mono ?_); rintro r w1 ⟨rfl, v1, ht1⟩; have HT1 := Lib.hid (pw_left HC.out ht1); obtain ⟨q0, q1, q2, q3, -, -, -, -⟩ := Blk.four (Blk.beside (pw_l HH.out) (Blk.new w #[.int .i64 3, .int .i64 n, .bool b, .string t] 36) (Nat.le_refl _) ht1); clear ht1; have HX1 := Lib.hid (show x.xown.holds w1 from HT1.out.now.2.1))
    | (go_at_call 66; (with_reducible refine (HX.out _ HX1.out).mono ?_); rintro r w2 ⟨rfl, v2, ht2⟩; have HT2 := Lib.hid (pw_right HT1.out ht2); clear ht2))
  go_ret
  exact ⟨rfl, v1, v2, HT2.out⟩
theorem write_text (s x : WrS) (n : Int) (b : Bool) (t : ByteArray) (w : World) (h : (pw s x).holds w) (he : x.bs = s.bs) (hb : x.bad = s.bad) (hl : s.bs.length + t.size + 10 ≤ 140737488355328) :
    Calls Try.prog 17 #[.pointer (some ⟨s.g, 0, none⟩), .pointer (some ⟨x.g, 0, none⟩), .agg (ItA.mk 4 n b t).cells] w (WrOk s x ⟨4, n, b, t⟩ w) := by
  have HC := Lib.hid ((Turns.refl h).alloc (.cells #[.int .i64 4, .int .i64 n, .bool b, .string t] 36))
  have HW := Lib.hid (w_text s (w.alloc (.cells #[.int .i64 4, .int .i64 n, .bool b, .string t] 36)) n b t (pw_l HC.out.now) hl)
  have HX := Lib.hid (fun W h => x_text x W n b t h (by rw [he]; exact hl))
  have HH := Lib.hid h
  unfold WP at HW
  unfold XP at HX
  rw [he, hb] at HX
  show Calls Try.prog 17 #[.pointer (some ⟨s.g, 0, none⟩), .pointer (some ⟨x.g, 0, none⟩), .agg #[.int .i64 4, .int .i64 n, .bool b, .string t]] w _
  clear h
  go_enter Try.func17, Try.ntmps17
  go_wp2_with (first
    | (go_at_call 61; (with_reducible refine HW.out.mono ?_); rintro r w1 ⟨rfl, v1, ht1⟩; have HT1 := Lib.hid (pw_left HC.out ht1); obtain ⟨q0, q1, q2, q3, -, -, -, -⟩ := Blk.four (Blk.beside (pw_l HH.out) (Blk.new w #[.int .i64 4, .int .i64 n, .bool b, .string t] 36) (Nat.le_refl _) ht1); clear ht1; have HX1 := Lib.hid (show x.xown.holds w1 from HT1.out.now.2.1))
    | (go_at_call 67; (with_reducible refine (HX.out _ HX1.out).mono ?_); rintro r w2 ⟨rfl, v2, ht2⟩; have HT2 := Lib.hid (pw_right HT1.out ht2); clear ht2))
  go_ret
  exact ⟨rfl, v1, v2, HT2.out⟩
theorem write_none (s x : WrS) (it : ItA) (w : World) (h : (pw s x).holds w) (he : x.bs = s.bs) (hb : x.bad = s.bad) (hk : it.kind < 1 ∨ 5 < it.kind) :
    Calls Try.prog 17 #[.pointer (some ⟨s.g, 0, none⟩), .pointer (some ⟨x.g, 0, none⟩), .agg it.cells] w (WrOk s x it w) := by
  obtain ⟨k, n, b, t⟩ := it
  have HW := Lib.hid (wrB_none s.bs s.bad hk)
  have hk' : k < 1 ∨ 5 < k := hk
  have d1 : (k == 1) = false := by simp; omega
  have d2 : (k == 2) = false := by simp; omega
  have d3 : (k == 3) = false := by simp; omega
  have d4 : (k == 4) = false := by simp; omega
  have d5 : (k == 5) = false := by simp; omega
  have HC := Lib.hid ((Turns.refl h).alloc (.cells #[.int .i64 k, .int .i64 n, .bool b, .string t] 36))
  have HE := Lib.hid he
  have HB := Lib.hid hb
  clear h he hb hk hk'
  show Calls Try.prog 17 #[.pointer (some ⟨s.g, 0, none⟩), .pointer (some ⟨x.g, 0, none⟩), .agg #[.int .i64 k, .int .i64 n, .bool b, .string t]] w _
  go_enter Try.func17, Try.ntmps17
  go_wp2_with fail
  go_ret
  refine ⟨rfl, s.v, x.v, ?_⟩
  rw [HW.out]
  have h := HC.out
  show Turns _ _ _ (pw s (WrS.mk x.g x.v s.bs s.bad))
  have e : WrS.mk x.g x.v s.bs s.bad = x := by rw [← HE.out, ← HB.out]
  rw [e]
  exact h
theorem src0 (w : World) (t : ByteArray) (c b0 : Nat) (hb0 : b0 = w.heap.size) : Src (Lib.bytesWorld w 5 t) (.slice (some ⟨b0, 0, none⟩) t.size c) t.size 1 (t.data.toList.map bv) := by
  subst hb0
  have h := bytesWorld_src w 5 t c
  rw [size_len] at h
  exact h
theorem src_head {w : World} {g n m c : Nat} {xs ys : List Value} (h : w.ownsRow 0 5 1 (.slice (some ⟨g, 0, none⟩) m c) m (xs ++ ys)) (hx : xs.length = n) (c' : Nat) : Src w (.slice (some ⟨g, 0, none⟩) n c') n 1 xs := by
  refine ⟨by omega, Or.inr ⟨⟨g, 0, none⟩, c', rfl, fun j u hu => ?_⟩⟩
  exact World.ownsRow.cells (g := g) h rfl j u (by rw [List.getElem?_append_left (List.getElem?_eq_some_iff.1 hu).1]; exact hu)
theorem lw_s {s x s' : WrS} {L : Hp.Own} {w W W' : World} {O : Hp.Own} (h : Turns w W O (Hp.Own.both L (pw s x))) (t : Turns W W' s.own s'.own) : Turns w W' O (Hp.Own.both L (pw s' x)) := h.trans (Turns.rightT h.now (Turns.left h.now.2.1 t))
theorem lw_x {s x x' : WrS} {L : Hp.Own} {w W W' : World} {O : Hp.Own} (h : Turns w W O (Hp.Own.both L (pw s x))) (t : Turns W W' x.xown x'.xown) : Turns w W' O (Hp.Own.both L (pw s x')) := h.trans (Turns.rightT h.now (Turns.rightT h.now.2.1 t))
theorem lw_far_s {s x : WrS} {L : Hp.Own} {w : World} (h : (Hp.Own.both L (pw s x)).holds w) {b : Nat} (hb : L.foot b) : ¬ s.own.foot b := fun hf => h.2.2 b hb (Or.inl hf)
theorem far_head {s x : WrS} {w : World} {gl m c n c' : Nat} {xs ys : List Value} (h : (Hp.Own.both (Hp.Own.row 5 1 (.slice (some ⟨gl, 0, none⟩) m c) m ys) (pw s x)).holds w) (hs : Src w (.slice (some ⟨gl, 0, none⟩) n c') n 1 xs) : ∀ w', Chg s.own.foot w w' → Src w' (.slice (some ⟨gl, 0, none⟩) n c') n 1 xs :=
  fun w' hc => Src.far hs hc (fun hf => h.2.2 gl rfl (Or.inl hf))
theorem far_src0 {x : WrS} (w : World) (t : ByteArray) (c : Nat) (h : x.xown.holds w) : ∀ w', Chg x.xown.foot (Lib.bytesWorld w 5 t) w' → Src w' (.slice (some ⟨w.heap.size, 0, none⟩) t.size c) t.size 1 (t.data.toList.map bv) :=
  fun w' hc => Src.far (src0 w t c w.heap.size rfl) hc (fun hf => Nat.lt_irrefl _ (x.xown.lt h _ hf))
theorem write_bytes (s x : WrS) (n : Int) (b : Bool) (t : ByteArray) (w : World) (h : (pw s x).holds w) (he : x.bs = s.bs) (hb : x.bad = s.bad) (hl : s.bs.length + t.size + 10 ≤ 140737488300000) :
    Calls Try.prog 17 #[.pointer (some ⟨s.g, 0, none⟩), .pointer (some ⟨x.g, 0, none⟩), .agg (ItA.mk 5 n b t).cells] w (WrOk s x ⟨5, n, b, t⟩ w) := by
  have hcv := fun (w : World) (x : ByteArray) => Lib.run_convert_string_bytes (P := Try.prog) w 9 38 5 x Try.underlying9 Try.underlying38 Try.underlying5
  obtain ⟨W0, hW0⟩ : ∃ W0, w.alloc (.cells #[.int .i64 5, .int .i64 n, .bool b, .string t] 36) = W0 := ⟨_, rfl⟩
  have hs0 : W0.heap.size = w.heap.size + 1 := by rw [← hW0]; simp
  have HC := Lib.hid (show Turns w W0 (pw s x) (pw s x) from hW0 ▸ (Turns.refl h).alloc (.cells #[.int .i64 5, .int .i64 n, .bool b, .string t] 36))
  have HB0 := Lib.hid (show Blk W0 w.heap.size #[.int .i64 5, .int .i64 n, .bool b, .string t] 36 from hW0 ▸ Blk.new w _ _)
  have HW0 := Lib.hid hW0
  have HS0 := Lib.hid hs0
  have HLE : Hid (∀ c, Calls Try.prog 24 #[.slice (some ⟨w.heap.size + 1, 0, none⟩) t.size c] (Lib.bytesWorld W0 5 t) fun r w' => ∃ gl, r = .returned (.slice (some ⟨gl, 0, none⟩) (t.size + 8) (t.size + 8)) ∧ Turns (Lib.bytesWorld W0 5 t) w' Hp.Own.emp (Hp.Own.row 5 1 (.slice (some ⟨gl, 0, none⟩) (t.size + 8) (t.size + 8)) (t.size + 8) (lentC t.data.toList 8))) :=
    Lib.hid (fun c => (lent_any (some ⟨w.heap.size + 1, 0, none⟩) t.size c t.data.toList (Lib.bytesWorld W0 5 t) (src0 W0 t c (w.heap.size + 1) hs0.symm) (by omega)).mono (fun r w' h => ⟨_, h.1, h.2⟩))
  have HNS := Lib.hid (show ¬ s.own.foot w.heap.size from fun hf => Nat.lt_irrefl _ (s.own.lt (pw_l h) _ hf))
  have HNX := Lib.hid (show ¬ x.xown.foot w.heap.size from fun hf => Nat.lt_irrefl _ (x.xown.lt (pw_r h) _ hf))
  have HSW := Lib.hid (fun W A c h hx hf => w_bytes s W n b t A c h hx hf (by omega))
  have HXW := Lib.hid (fun W A c h hx hf => x_bytes x W n b t A c h hx hf (by rw [he]; omega))
  have HST := Lib.hid (fun A B c d W hs ht => still_yes A B t.size c d t.data.toList W hs ht (by omega))
  have HH := Lib.hid h
  have hB1 : Blk (Lib.bytesWorld W0 5 t) w.heap.size #[.int .i64 5, .int .i64 n, .bool b, .string t] 36 := HB0.out.chg (bytesWorld_chg W0 5 t) (fun h => h)
  have HB1 := Lib.hid hB1
  have hsz : (Lib.bytesWorld W0 5 t).heap.size = W0.heap.size + 1 := Lib.bytesWorld_size _ _ _
  have HSZ := Lib.hid hsz
  obtain ⟨q0, q1, q2, q3, -, -, -, -⟩ := Blk.four HB0.out
  unfold WP at HSW
  unfold XP at HXW
  rw [he, hb] at HXW
  have htb : t.size ≤ 140737488300000 := by omega
  show Calls Try.prog 17 #[.pointer (some ⟨s.g, 0, none⟩), .pointer (some ⟨x.g, 0, none⟩), .agg #[.int .i64 5, .int .i64 n, .bool b, .string t]] w _
  clear h hB1 hsz hW0
  have hq9 : t.size ≤ t.size + 8 := by omega
  go_enter Try.func17, Try.ntmps17
  go_wp2_with (first
    | (go_at_call 24; rw [HW0.out]; (with_reducible refine (HLE.out _).mono ?_); rintro r w1 ⟨gl, rfl, ht1⟩; have HT1 := Lib.hid ((HC.out.kept (bytesWorld_chg W0 5 t)).trans (Turns.add (HC.out.kept (bytesWorld_chg W0 5 t)).now ht1)); have HB1' := Lib.hid (HB1.out.chg ht1.chg (fun h => h)); clear ht1; clear q0 q1 q2 q3; obtain ⟨q0, q1, q2, q3, -, -, -, -⟩ := Blk.four HB1'.out; have HSR := Lib.hid (src_head (show w1.ownsRow 0 5 1 (.slice (some ⟨gl, 0, none⟩) (t.size + 8) (t.size + 8)) (t.size + 8) (t.data.toList.map bv ++ (List.replicate 8 (.int .u8 165) ++ List.replicate (8 - 8) (.int .u8 0))) from HT1.out.now.1) (by rw [List.length_map, size_len]) (t.size + 8)); have HFS := Lib.hid (far_head HT1.out.now HSR.out); have HSH := Lib.hid (pw_l (show (pw s x).holds w1 from HT1.out.now.2.1)))
    | (go_at_call 68; (with_reducible refine (HSW.out _ _ _ HSH.out HSR.out HFS.out).mono ?_); rintro r w2 ⟨rfl, v1, ht2⟩; have HT2 := Lib.hid (lw_s HT1.out ht2); have HB2 := Lib.hid (HB1'.out.chg ht2.chg HNS.out); clear ht2; clear q0 q1 q2 q3; obtain ⟨q0, q1, q2, q3, -, -, -, -⟩ := Blk.four HB2.out; have HT2' := Lib.hid (HT2.out.kept (bytesWorld_chg w2 5 t)); have HXH := Lib.hid (show x.xown.holds (Lib.bytesWorld w2 5 t) from HT2'.out.now.2.1.2.1); have HSR2 := Lib.hid (fun c => src0 w2 t c w2.heap.size rfl); have HFX := Lib.hid (fun c => far_src0 (x := x) w2 t c (show x.xown.holds w2 from HT2.out.now.2.1.2.1)))
    | (go_at_call 69; (with_reducible refine (HXW.out _ _ _ HXH.out (HSR2.out _) (HFX.out _)).mono ?_); rintro r w4 ⟨rfl, v2, ht4⟩; have HT4 := Lib.hid (lw_x HT2'.out ht4); have HB4 := Lib.hid ((HB2.out.chg (bytesWorld_chg w2 5 t) (fun h => h)).chg ht4.chg HNX.out); clear ht4; clear q0 q1 q2 q3; obtain ⟨q0, q1, q2, q3, -, -, -, -⟩ := Blk.four HB4.out; have HT4' := Lib.hid (HT4.out.kept (bytesWorld_chg w4 5 t)); have HSL := Lib.hid (Src.of_own (show (Lib.bytesWorld w4 5 t).ownsRow 0 5 1 (.slice (some ⟨gl, 0, none⟩) (t.size + 8) (t.size + 8)) (t.size + 8) (lentC t.data.toList 8) from HT4'.out.now.1)); have HSR4 := Lib.hid (fun c => src0 w4 t c w4.heap.size rfl))
    | (go_at_call 27; (with_reducible refine (HST.out _ _ _ _ _ HSL.out (HSR4.out _)).mono ?_); rintro r w6 ⟨rfl, q6, hq6⟩; have hc6 : Chg (fun _ => False) (Lib.bytesWorld w4 5 t) w6 := (by rw [← hq6]; exact (Chg.refl _ _).drewN _); have HT6 := Lib.hid (HT4'.out.kept hc6); clear hq6 hc6))
  clear q0 q1 q2 q3
  go_loopw [9] (fun x9 wr => ∃ (i : Nat) (ys : List Value), x9 = .int .i64 i ∧ i ≤ t.size + 8 ∧ Turns w wr (pw s x) (Hp.Own.both (Hp.Own.row 5 1 (.slice (some ⟨gl, 0, none⟩) (t.size + 8) (t.size + 8)) (t.size + 8) ys) (pw (WrS.mk s.g v1 (wrB s.bs s.bad ⟨5, n, b, t⟩).1 (wrB s.bs s.bad ⟨5, n, b, t⟩).2) (WrS.mk x.g v2 (wrB s.bs s.bad ⟨5, n, b, t⟩).1 (wrB s.bs s.bad ⟨5, n, b, t⟩).2)))) (fun x9 _ => t.size + 8 - (intOf x9).toNat)
  case atStart => exact ⟨0, _, rfl, Nat.zero_le _, HT6.out⟩
  case round =>
    obtain ⟨i, ys, rfl, hi, ht⟩ := hrel
    have HT := Lib.hid ht
    have hrow : wr.ownsRow 0 5 1 (.slice (some ⟨gl, 0, none⟩) (t.size + 8) (t.size + 8)) (t.size + 8) ys := ht.now.1
    have HRW := Lib.hid hrow
    clear ht hrow
    by_cases hlt : i < t.size + 8
    · have hd : decide ((i : Int) < ((t.size + 8 : Nat) : Int)) = true := by simp; omega
      have hd' : decide (i < t.size + 8) = true := by simpa using hlt
      obtain ⟨u, _, hc, hf⟩ := row_there HRW.out i hlt
      go_wp2_with fail
      go_roundw
      case rel => exact ⟨i + 1, _, by simp, by omega, HT.out.trans (Turns.left HT.out.now (Turns.row_set HRW.out i (.int .u8 90)))⟩
      case measure => simp [intOf]; omega
    · have hd : decide ((i : Int) < ((t.size + 8 : Nat) : Int)) = false := by simp; omega
      have hd' : decide (i < t.size + 8) = false := by simpa using hlt
      go_wp2_with fail
      go_ret
      exact ⟨rfl, v1, v2, HT.out.dropL⟩
theorem write_any (s x : WrS) (it : ItA) (w : World) (h : (pw s x).holds w) (he : x.bs = s.bs) (hb : x.bad = s.bad) (hf : it.fits) (hl : s.bs.length + it.s.size + 10 ≤ 140737488300000) :
    Calls Try.prog 17 #[.pointer (some ⟨s.g, 0, none⟩), .pointer (some ⟨x.g, 0, none⟩), .agg it.cells] w (WrOk s x it w) := by
  obtain ⟨k, n, b, t⟩ := it
  have hl' : s.bs.length + t.size + 10 ≤ 140737488300000 := hl
  by_cases h1 : k = 1
  · subst h1; exact write_num s x n b t w h he hb hf.2.1.1 hf.2.1.2 (by omega)
  · by_cases h2 : k = 2
    · subst h2; exact write_signed s x n b t w h he hb hf.2.1.1 hf.2.1.2 (by omega)
    · by_cases h3 : k = 3
      · subst h3; exact write_bool s x n b t w h he hb (by omega)
      · by_cases h4 : k = 4
        · subst h4; exact write_text s x n b t w h he hb (by omega)
        · by_cases h5 : k = 5
          · subst h5; exact write_bytes s x n b t w h he hb hl'
          · exact write_none s x ⟨k, n, b, t⟩ w h he hb (show k < 1 ∨ 5 < k by omega)
end Go.Proofs.Ytkpgdonpmfebaaa.Bt

/- The reader's calls, whatever its state; one item read: got. -/
namespace Go.Proofs.Ytkpgdonpmfebaaa.Bt
open Go.RowKit Go.Hp
attribute [local go_sem] min2_lean min_two max2_lean max_two
set_option linter.unusedSimpArgs false
set_option linter.unusedVariables false
set_option maxRecDepth 100000
/-- A reader that may go on. -/
def RdS.good (r : RdS) : Prop := r.at_ ≤ r.bs.length ∧ r.bs.length ≤ 140737488355328
def RdS.num (r : RdS) (most : Int) : Int × RdS := if r.e = 0 then ((numOf most 13 r.bs r.at_).1, (ItS.mk 0 r (numOf most 13 r.bs r.at_).2.1 (numOf most 13 r.bs r.at_).2.2).ended) else (0, r)
def RdS.signed (r : RdS) : Int × RdS := if r.e = 0 then (if (gr 10 1 r.bs 10 0 0 r.at_).2.2 = 0 then uz (gr 10 1 r.bs 10 0 0 r.at_).1 else 0, (ItS.mk 0 r (gr 10 1 r.bs 10 0 0 r.at_).2.1 (gr 10 1 r.bs 10 0 0 r.at_).2.2).ended) else (0, r)
def RdS.bool (r : RdS) : Bool × RdS := if r.e = 0 then ((boolOf r.bs r.at_).1, (ItS.mk 0 r (boolOf r.bs r.at_).2.1 (boolOf r.bs r.at_).2.2).ended) else (false, r)
def RdS.some (r : RdS) (most : Int) : List UInt8 × RdS := if r.e = 0 then ((someOf most r.bs r.at_).1, (ItS.mk 0 r (someOf most r.bs r.at_).2.1 (someOf most r.bs r.at_).2.2).ended) else ([], r)
section
variable (r : RdS) (w : World) (hs : r.own.holds w) (hg : r.good)
include hs hg
theorem rnum_all (most : Int) : Calls Try.prog 38 #[.pointer (some ⟨r.g, 0, none⟩), .int .i64 most] w fun q w' => q = .returned (.int .i64 (r.num most).1) ∧ Turns w w' r.own (r.num most).2.own := by
  unfold RdS.num
  by_cases h : r.e = 0
  · rw [if_pos h]; exact rnum_ok r most w hs h hg.1 (by have := hg.2; omega)
  · rw [if_neg h]; exact rnum_err r most w hs (by simpa using h)
theorem rsigned_all : Calls Try.prog 62 #[.pointer (some ⟨r.g, 0, none⟩)] w fun q w' => q = .returned (.int .i64 r.signed.1) ∧ Turns w w' r.own r.signed.2.own := by
  unfold RdS.signed
  by_cases h : r.e = 0
  · rw [if_pos h]; exact rsigned_ok r w hs h hg.1 (by have := hg.2; omega)
  · rw [if_neg h]; exact rsigned_err r w hs (by simpa using h)
theorem rbool_all : Calls Try.prog 73 #[.pointer (some ⟨r.g, 0, none⟩)] w fun q w' => q = .returned (.bool r.bool.1) ∧ Turns w w' r.own r.bool.2.own := by
  unfold RdS.bool
  by_cases h : r.e = 0
  · rw [if_pos h]; exact rbool_ok r w hs h hg.1 (by have := hg.2; omega)
  · rw [if_neg h]; exact rbool_err r w hs (by simpa using h)
theorem rtext_all (most : Int) : Calls Try.prog 75 #[.pointer (some ⟨r.g, 0, none⟩), .int .i64 most] w fun q w' => q = .returned (.string ⟨(r.some most).1.toArray⟩) ∧ Turns w w' r.own (r.some most).2.own := by
  unfold RdS.some
  by_cases h : r.e = 0
  · rw [if_pos h]; exact rtext_ok r most w hs h hg.1 (by have := hg.2; omega)
  · rw [if_neg h]; exact rtext_err r most w hs (by simpa using h)
theorem rbytes_all (most : Int) : Calls Try.prog 31 #[.pointer (some ⟨r.g, 0, none⟩), .int .i64 most] w fun q w' => ∃ A c, q = .returned (.slice A (r.some most).1.length c) ∧
    Turns w w' r.own (Own.both (Own.row 5 1 (.slice A (r.some most).1.length c) (r.some most).1.length ((r.some most).1.map bv)) (r.some most).2.own) := by
  unfold RdS.some
  by_cases h : r.e = 0
  · rw [if_pos h]
    refine (rbytes_ok r most w hs h hg.1 (by have := hg.2; omega)).mono ?_
    rintro q w' ⟨o, rfl, ht, _⟩
    obtain ⟨A, c, rfl⟩ := row_slice ht.now.1
    exact ⟨A, c, rfl, ht⟩
  · rw [if_neg h]
    refine (rbytes_err r most w hs (by simpa using h)).mono ?_
    rintro q w' ⟨o, rfl, ht, _⟩
    obtain ⟨A, c, rfl⟩ := row_slice ht.now.1
    exact ⟨A, c, rfl, ht⟩
end
/-- One item read by its kind, without a bound. -/
def gotOf (r : RdS) (k : Int) : ItA × RdS :=
  if k = 1 then (⟨1, (r.num 9223372036854775807).1, false, ⟨#[]⟩⟩, (r.num 9223372036854775807).2)
  else if k = 2 then (⟨2, r.signed.1, false, ⟨#[]⟩⟩, r.signed.2)
  else if k = 3 then (⟨3, 0, r.bool.1, ⟨#[]⟩⟩, r.bool.2)
  else if k = 4 then (⟨4, 0, false, ⟨(r.some 9223372036854775807).1.toArray⟩⟩, (r.some 9223372036854775807).2)
  else (⟨5, 0, false, ⟨(r.some 9223372036854775807).1.toArray⟩⟩, (r.some 9223372036854775807).2)
theorem got_any (r : RdS) (k : Int) (w : World) (hs : r.own.holds w) (hg : r.good) (h1 : 1 ≤ k) (h2 : k ≤ 5) :
    Calls Try.prog 34 #[.pointer (some ⟨r.g, 0, none⟩), .int .i64 k] w fun q w' => q = .returned (.agg (gotOf r k).1.cells) ∧ Turns w w' r.own (gotOf r k).2.own := by
  obtain ⟨M, hM⟩ : ∃ M : Int, M = 9223372036854775807 := ⟨_, rfl⟩
  have HS := Lib.hid (Turns.refl hs)
  clear hs
  have hk : k = 1 ∨ k = 2 ∨ k = 3 ∨ k = 4 ∨ k = 5 := by omega
  clear h1 h2
  have HZ : Hid (Blk ((w.alloc (.cells #[.int .i64 0, .int .i64 0, .bool false, .string ⟨#[]⟩] 36)).alloc (.cells #[.int .i64 k, .int .i64 0, .bool false, .string ⟨#[]⟩] 36)) w.heap.size #[.int .i64 0, .int .i64 0, .bool false, .string ⟨#[]⟩] 36) := (Blk.new _ _ _).alloc _
  have HK : Hid (Blk ((w.alloc (.cells #[.int .i64 0, .int .i64 0, .bool false, .string ⟨#[]⟩] 36)).alloc (.cells #[.int .i64 k, .int .i64 0, .bool false, .string ⟨#[]⟩] 36)) (w.heap.size + 1) #[.int .i64 k, .int .i64 0, .bool false, .string ⟨#[]⟩] 36) := by
    have h := Blk.new (w.alloc (.cells #[.int .i64 0, .int .i64 0, .bool false, .string ⟨#[]⟩] 36)) #[.int .i64 k, .int .i64 0, .bool false, .string ⟨#[]⟩] 36
    rwa [show (w.alloc (.cells #[.int .i64 0, .int .i64 0, .bool false, .string ⟨#[]⟩] 36)).heap.size = w.heap.size + 1 by simp] at h
  rcases hk with rfl | rfl | rfl | rfl | rfl
  · have HC := fun W h => rnum_all r W h hg 9223372036854775807
    rw [show gotOf r 1 = (⟨1, (r.num 9223372036854775807).1, false, ⟨#[]⟩⟩, (r.num 9223372036854775807).2) from rfl]
    generalize (r.num 9223372036854775807) = G at *
    obtain ⟨n, r'⟩ := G
    have HCC := Lib.hid HC
    clear HC
    go_enter Try.func34, Try.ntmps34
    go_wp2_with (go_at_call 38; refine (HCC.out _ ((HS.out.alloc _).alloc _).now).mono ?_; rintro q w1 ⟨rfl, ht⟩; have HT := Lib.hid ht; obtain ⟨d0, d1, d2, d3, f0, f1, f2, f3⟩ := (Blk.beside HS.out.now HK.out (by omega) ht).four; obtain ⟨e0, e1, e2, e3, g0, g1, g2, g3⟩ := (Blk.beside HS.out.now HZ.out (by omega) ht).four; clear ht)
    refine bodyPost_ret (v := .agg #[.int .i64 1, .int .i64 n, .bool false, .string ⟨#[]⟩]) (by simp [results, Try.results34, go_sem, *]) rfl ⟨by rfl, ?_⟩
    exact Turns.boxes HS.out.now (((Chg.refl _ _).alloc _).alloc _) HT.out (by (repeat (first | (with_reducible exact Chg.refl _ _) | (with_reducible refine Chg.set ?_ (Or.inr ⟨by first | (simp; done) | (simp; omega), by first | (simp; done) | (simp; omega)⟩) _) | (with_reducible refine Chg.set ?_ (Or.inl (by simp)) _) | (with_reducible refine Chg.alloc ?_ _) | (with_reducible refine Chg.drew ?_) | (with_reducible refine Chg.drewN ?_ _))))
  · have HC := fun W h => rsigned_all r W h hg
    rw [show gotOf r 2 = (⟨2, r.signed.1, false, ⟨#[]⟩⟩, r.signed.2) from rfl]
    generalize r.signed = G at *
    obtain ⟨n, r'⟩ := G
    have HCC := Lib.hid HC
    clear HC
    go_enter Try.func34, Try.ntmps34
    go_wp2_with (go_at_call 62; refine (HCC.out _ ((HS.out.alloc _).alloc _).now).mono ?_; rintro q w1 ⟨rfl, ht⟩; have HT := Lib.hid ht; obtain ⟨d0, d1, d2, d3, f0, f1, f2, f3⟩ := (Blk.beside HS.out.now HK.out (by omega) ht).four; obtain ⟨e0, e1, e2, e3, g0, g1, g2, g3⟩ := (Blk.beside HS.out.now HZ.out (by omega) ht).four; clear ht)
    refine bodyPost_ret (v := .agg #[.int .i64 2, .int .i64 n, .bool false, .string ⟨#[]⟩]) (by simp [results, Try.results34, go_sem, *]) rfl ⟨by rfl, ?_⟩
    exact Turns.boxes HS.out.now (((Chg.refl _ _).alloc _).alloc _) HT.out (by (repeat (first | (with_reducible exact Chg.refl _ _) | (with_reducible refine Chg.set ?_ (Or.inr ⟨by first | (simp; done) | (simp; omega), by first | (simp; done) | (simp; omega)⟩) _) | (with_reducible refine Chg.set ?_ (Or.inl (by simp)) _) | (with_reducible refine Chg.alloc ?_ _) | (with_reducible refine Chg.drew ?_) | (with_reducible refine Chg.drewN ?_ _))))
  · have HC := fun W h => rbool_all r W h hg
    rw [show gotOf r 3 = (⟨3, 0, r.bool.1, ⟨#[]⟩⟩, r.bool.2) from rfl]
    generalize r.bool = G at *
    obtain ⟨n, r'⟩ := G
    have HCC := Lib.hid HC
    clear HC
    go_enter Try.func34, Try.ntmps34
    go_wp2_with (go_at_call 73; refine (HCC.out _ ((HS.out.alloc _).alloc _).now).mono ?_; rintro q w1 ⟨rfl, ht⟩; have HT := Lib.hid ht; obtain ⟨d0, d1, d2, d3, f0, f1, f2, f3⟩ := (Blk.beside HS.out.now HK.out (by omega) ht).four; obtain ⟨e0, e1, e2, e3, g0, g1, g2, g3⟩ := (Blk.beside HS.out.now HZ.out (by omega) ht).four; clear ht)
    refine bodyPost_ret (v := .agg #[.int .i64 3, .int .i64 0, .bool n, .string ⟨#[]⟩]) (by simp [results, Try.results34, go_sem, *]) rfl ⟨by rfl, ?_⟩
    exact Turns.boxes HS.out.now (((Chg.refl _ _).alloc _).alloc _) HT.out (by (repeat (first | (with_reducible exact Chg.refl _ _) | (with_reducible refine Chg.set ?_ (Or.inr ⟨by first | (simp; done) | (simp; omega), by first | (simp; done) | (simp; omega)⟩) _) | (with_reducible refine Chg.set ?_ (Or.inl (by simp)) _) | (with_reducible refine Chg.alloc ?_ _) | (with_reducible refine Chg.drew ?_) | (with_reducible refine Chg.drewN ?_ _))))
  · have HC := fun W h => rtext_all r W h hg 9223372036854775807
    rw [show gotOf r 4 = (⟨4, 0, false, ⟨((r.some 9223372036854775807).1).toArray⟩⟩, (r.some 9223372036854775807).2) from rfl]
    generalize (r.some 9223372036854775807) = G at *
    obtain ⟨n, r'⟩ := G
    have HCC := Lib.hid HC
    clear HC
    go_enter Try.func34, Try.ntmps34
    go_wp2_with (go_at_call 75; refine (HCC.out _ ((HS.out.alloc _).alloc _).now).mono ?_; rintro q w1 ⟨rfl, ht⟩; have HT := Lib.hid ht; obtain ⟨d0, d1, d2, d3, f0, f1, f2, f3⟩ := (Blk.beside HS.out.now HK.out (by omega) ht).four; obtain ⟨e0, e1, e2, e3, g0, g1, g2, g3⟩ := (Blk.beside HS.out.now HZ.out (by omega) ht).four; clear ht)
    refine bodyPost_ret (v := .agg #[.int .i64 4, .int .i64 0, .bool false, .string ⟨n.toArray⟩]) (by simp [results, Try.results34, go_sem, *]) rfl ⟨by rfl, ?_⟩
    exact Turns.boxes HS.out.now (((Chg.refl _ _).alloc _).alloc _) HT.out (by (repeat (first | (with_reducible exact Chg.refl _ _) | (with_reducible refine Chg.set ?_ (Or.inr ⟨by first | (simp; done) | (simp; omega), by first | (simp; done) | (simp; omega)⟩) _) | (with_reducible refine Chg.set ?_ (Or.inl (by simp)) _) | (with_reducible refine Chg.alloc ?_ _) | (with_reducible refine Chg.drew ?_) | (with_reducible refine Chg.drewN ?_ _))))
  · have HC := fun W h => rbytes_all r W h hg 9223372036854775807
    rw [show gotOf r 5 = (⟨5, 0, false, ⟨((r.some 9223372036854775807).1).toArray⟩⟩, (r.some 9223372036854775807).2) from rfl]
    generalize (r.some 9223372036854775807) = G at *
    obtain ⟨n, r'⟩ := G
    have HCC := Lib.hid HC
    clear HC
    go_enter Try.func34, Try.ntmps34
    go_wp2_with (go_at_call 31; refine (HCC.out _ ((HS.out.alloc _).alloc _).now).mono ?_; rintro q w1 ⟨A, c, rfl, ht0⟩; have hcv := conv_src w1 _ n (Src.of_own ht0.now.1); have ht := ht0.dropL; clear ht0; have HT := Lib.hid ht; obtain ⟨d0, d1, d2, d3, f0, f1, f2, f3⟩ := (Blk.beside HS.out.now HK.out (by omega) ht).four; obtain ⟨e0, e1, e2, e3, g0, g1, g2, g3⟩ := (Blk.beside HS.out.now HZ.out (by omega) ht).four; clear ht)
    refine bodyPost_ret (v := .agg #[.int .i64 5, .int .i64 0, .bool false, .string ⟨n.toArray⟩]) (by simp [results, Try.results34, go_sem, *]) rfl ⟨by rfl, ?_⟩
    exact Turns.boxes HS.out.now (((Chg.refl _ _).alloc _).alloc _) HT.out (by (repeat (first | (with_reducible exact Chg.refl _ _) | (with_reducible refine Chg.set ?_ (Or.inr ⟨by first | (simp; done) | (simp; omega), by first | (simp; done) | (simp; omega)⟩) _) | (with_reducible refine Chg.set ?_ (Or.inl (by simp)) _) | (with_reducible refine Chg.alloc ?_ _) | (with_reducible refine Chg.drew ?_) | (with_reducible refine Chg.drewN ?_ _))))
end Go.Proofs.Ytkpgdonpmfebaaa.Bt

/- What was written in groups is read back. Plain. -/
namespace Go.Proofs.Ytkpgdonpmfebaaa.Bt
set_option linter.unusedSimpArgs false
set_option linter.unusedVariables false

theorem gr_vi (most top : Nat) (ht : top ≤ 127) (bs rest : List UInt8) : ∀ k i n acc a, i + (k + 1) = most → n < (top + 1) * 128 ^ k → (i = 0 ∨ 0 < n) → bs.drop a = vi n ++ rest →
    gr most top bs (k + 1) i acc a = (acc + n * 128 ^ i, a + (vi n).length, 0) := by
  intro k
  induction k with
  | zero =>
    intro i n acc a hi hn hz hd
    have hn1 : n < 128 := by simp at hn; omega
    rw [vi_lt hn1] at hd
    have hlt : a < bs.length := by
      rcases Nat.lt_or_ge a bs.length with h | h
      · exact h
      · rw [List.drop_of_length_le h] at hd; simp at hd
    have hb : bs[a] = UInt8.ofNat n := by
      have : bs[a]? = some (UInt8.ofNat n) := by
        have h0 : (bs.drop a)[0]? = some (UInt8.ofNat n) := by rw [hd]; rfl
        rw [List.getElem?_drop] at h0
        simpa using h0
      rw [List.getElem?_eq_getElem hlt] at this
      exact Option.some.inj this
    have hbn : bs[a].toNat = n := by rw [hb, UInt8.toNat_ofNat_of_lt' (by simp [UInt8.size]; omega)]
    rw [gr, dif_pos hlt, hbn, if_neg (by simp at hn; omega), if_neg (by omega), if_pos hn1, vi_lt hn1]
    rfl
  | succ k ih =>
    intro i n acc a hi hn hz hd
    by_cases hn1 : n < 128
    · rw [vi_lt hn1] at hd
      have hlt : a < bs.length := by
        rcases Nat.lt_or_ge a bs.length with h | h
        · exact h
        · rw [List.drop_of_length_le h] at hd; simp at hd
      have hb : bs[a] = UInt8.ofNat n := by
        have : bs[a]? = some (UInt8.ofNat n) := by
          have h0 : (bs.drop a)[0]? = some (UInt8.ofNat n) := by rw [hd]; rfl
          rw [List.getElem?_drop] at h0
          simpa using h0
        rw [List.getElem?_eq_getElem hlt] at this
        exact Option.some.inj this
      have hbn : bs[a].toNat = n := by rw [hb, UInt8.toNat_ofNat_of_lt' (by simp [UInt8.size]; omega)]
      rw [gr, dif_pos hlt, hbn, if_neg (by omega), if_neg (by omega), if_pos hn1, vi_lt hn1]
      rfl
    · rw [vi_ge hn1] at hd
      have hlt : a < bs.length := by
        rcases Nat.lt_or_ge a bs.length with h | h
        · exact h
        · rw [List.drop_of_length_le h] at hd; simp at hd
      have hb : bs[a] = UInt8.ofNat (n % 128 + 128) := by
        have : bs[a]? = some (UInt8.ofNat (n % 128 + 128)) := by
          have h0 : (bs.drop a)[0]? = some (UInt8.ofNat (n % 128 + 128)) := by rw [hd]; rfl
          rw [List.getElem?_drop] at h0
          simpa using h0
        rw [List.getElem?_eq_getElem hlt] at this
        exact Option.some.inj this
      have hbn : bs[a].toNat = n % 128 + 128 := by rw [hb, UInt8.toNat_ofNat_of_lt' (by simp [UInt8.size]; omega)]
      have hd2 : bs.drop (a + 1) = vi (n / 128) ++ rest := by
        have := congrArg (List.drop 1) hd
        rw [List.drop_drop] at this
        simpa using this
      rw [gr, dif_pos hlt, hbn, if_neg (by omega), if_neg (by omega), if_neg (by omega)]
      rw [ih (i + 1) (n / 128) _ (a + 1) (by omega) ?_ (Or.inr (by omega)) hd2, vi_ge hn1, List.length_cons]
      · have e : acc + (n % 128 + 128 - 128) * 128 ^ i + n / 128 * 128 ^ (i + 1) = acc + n * 128 ^ i := by
          rw [Nat.add_sub_cancel, Nat.pow_succ, Nat.mul_comm (128 ^ i) 128, ← Nat.mul_assoc, Nat.add_assoc, ← Nat.add_mul]
          congr 2
          omega
        rw [e, show a + 1 + (vi (n / 128)).length = a + ((vi (n / 128)).length + 1) by omega]
      · rw [Nat.pow_succ, ← Nat.mul_assoc] at hn
        exact Nat.div_lt_of_lt_mul (by rw [Nat.mul_comm]; exact hn)
theorem uz_zz (n : Int) : uz (zz n) = n := by
  unfold uz zz
  split <;> split <;> omega
theorem numOf_vi (most big : Int) (n : Nat) (bs rest : List UInt8) (a : Nat) (hn : n < 2 ^ 63) (hm : (n : Int) ≤ most) (hd : bs.drop a = vi n ++ rest) : numOf most big bs a = ((n : Int), a + (vi n).length, 0) := by
  have h128 : (127 + 1) * 128 ^ 8 = 2 ^ 63 := by decide
  have h := gr_vi 9 127 (by omega) bs rest 8 0 n 0 a rfl (by omega) (Or.inl rfl) hd
  unfold numOf
  rw [h]
  simp only [Nat.zero_add, Nat.pow_zero, Nat.mul_one, if_true]
  rw [if_neg (by omega)]
theorem someOf_vi (most : Int) (x bs rest : List UInt8) (a : Nat) (hn : x.length < 2 ^ 63) (hm : (x.length : Int) ≤ most) (ha : a ≤ bs.length) (hd : bs.drop a = vi x.length ++ (x ++ rest)) :
    someOf most bs a = (x, a + (vi x.length).length + x.length, 0) := by
  unfold someOf
  rw [numOf_vi most 14 x.length bs (x ++ rest) a hn hm hd]
  have hl := congrArg List.length hd
  simp only [List.length_drop, List.length_append] at hl
  simp only [if_true, Int.toNat_natCast]
  rw [if_neg (by omega), ← List.drop_drop, hd, List.drop_left, List.take_left]
theorem signed_vi (n : Int) (bs rest : List UInt8) (a : Nat) (h0 : -9223372036854775808 ≤ n) (h1 : n ≤ 9223372036854775807) (hd : bs.drop a = vi (zz n) ++ rest) :
    gr 10 1 bs 10 0 0 a = (zz n, a + (vi (zz n)).length, 0) := by
  have h128 : (1 + 1) * 128 ^ 9 = 2 ^ 64 := by decide
  have hz := zz_lt n h0 h1
  have h := gr_vi 10 1 (by omega) bs rest 9 0 (zz n) 0 a rfl (by omega) (Or.inl rfl) hd
  rw [h]
  simp
end Go.Proofs.Ytkpgdonpmfebaaa.Bt

/- One item read back: back. -/
namespace Go.Proofs.Ytkpgdonpmfebaaa.Bt
open Go.RowKit Go.Hp
attribute [local go_sem] min2_lean min_two max2_lean max_two
set_option linter.unusedSimpArgs false
set_option linter.unusedVariables false
set_option maxRecDepth 100000
def RdS.on (r : RdS) (n : Nat) : RdS := { r with at_ := r.at_ + n }
theorem ended_ok (r : RdS) (a : Nat) (he : r.e = 0) : (ItS.mk 0 r a 0).ended = { r with at_ := a } := by rw [ItS.ended, if_pos he, if_pos rfl]
section
variable (r : RdS) (he : r.e = 0) (rest : List UInt8)
include he
theorem back_num (n most : Int) (b : Bool) (s : ByteArray) (h0 : 0 ≤ n) (h1 : n ≤ 9223372036854775807) (hm : n ≤ most) (hd : r.bs.drop r.at_ = enc ⟨1, n, b, s⟩ ++ rest) : r.num most = (n, r.on (enc ⟨1, n, b, s⟩).length) := by
  obtain ⟨k, rfl⟩ : ∃ k : Nat, n = k := ⟨n.toNat, by omega⟩
  have h63 : (2 : Nat) ^ 63 = 9223372036854775808 := by decide
  have h := numOf_vi most 13 k r.bs rest r.at_ (by omega) hm hd
  unfold RdS.num RdS.on
  rw [if_pos he, h, ended_ok r _ he]
  rfl
theorem back_signed (n : Int) (b : Bool) (s : ByteArray) (h0 : -9223372036854775808 ≤ n) (h1 : n ≤ 9223372036854775807) (hd : r.bs.drop r.at_ = enc ⟨2, n, b, s⟩ ++ rest) : r.signed = (n, r.on (enc ⟨2, n, b, s⟩).length) := by
  have h := signed_vi n r.bs rest r.at_ h0 h1 hd
  unfold RdS.signed RdS.on
  rw [if_pos he, h]
  show (if (0 : Int) = 0 then uz (zz n) else 0, (ItS.mk 0 r (r.at_ + (vi (zz n)).length) 0).ended) = _
  rw [if_pos rfl, uz_zz, ended_ok r _ he]
  rfl
theorem back_bool (n : Int) (b : Bool) (s : ByteArray) (hd : r.bs.drop r.at_ = enc ⟨3, n, b, s⟩ ++ rest) : r.bool = (b, r.on (enc ⟨3, n, b, s⟩).length) := by
  have hd2 : r.bs.drop r.at_ = (if b then 1 else 0) :: rest := hd
  have hlt : r.at_ < r.bs.length := by
    rcases Nat.lt_or_ge r.at_ r.bs.length with h | h
    · exact h
    · rw [List.drop_of_length_le h] at hd2; cases b <;> simp at hd2
  have hb : r.bs[r.at_] = if b then 1 else 0 := by
    have : r.bs[r.at_]? = some (if b then 1 else 0) := by
      have h0 : (r.bs.drop r.at_)[0]? = some (if b then 1 else 0) := by rw [hd2]; rfl
      rw [List.getElem?_drop] at h0
      simpa using h0
    rw [List.getElem?_eq_getElem hlt] at this
    exact Option.some.inj this
  have h : boolOf r.bs r.at_ = (b, r.at_ + 1, 0) := by
    unfold boolOf
    rw [dif_pos hlt, hb]
    cases b <;> simp
  unfold RdS.bool RdS.on
  rw [if_pos he, h, ended_ok r _ he]
  cases b <;> rfl
theorem back_some (k n most : Int) (b : Bool) (s : ByteArray) (hk : k = 4 ∨ k = 5) (hg : r.good) (hm : (s.size : Int) ≤ most) (hs : s.size ≤ 140737488351232) (hd : r.bs.drop r.at_ = enc ⟨k, n, b, s⟩ ++ rest) : r.some most = (s.data.toList, r.on (enc ⟨k, n, b, s⟩).length) := by
  have hE : enc ⟨k, n, b, s⟩ = vi s.size ++ s.data.toList := by rcases hk with rfl | rfl <;> rfl
  have hsz : s.data.toList.length = s.size := by rw [Array.length_toList]; rfl
  have h63 : (2 : Nat) ^ 63 = 9223372036854775808 := by decide
  rw [hE, List.append_assoc] at hd
  have h := someOf_vi most s.data.toList r.bs rest r.at_ (by omega) (by rw [hsz]; exact hm) hg.1 (by rw [hsz]; exact hd)
  unfold RdS.some RdS.on
  rw [if_pos he, h, ended_ok r _ he, hE, List.length_append]
  rw [hsz, Nat.add_assoc]
end
theorem back_any (r : RdS) (x : ItA) (rest : List UInt8) (w : World) (hs : r.own.holds w) (hg : r.good) (he : r.e = 0) (hx : x.fits) (h1 : 1 ≤ x.kind) (h2 : x.kind ≤ 5) (h3 : x.kind = 1 → 0 ≤ x.n) (hd : r.bs.drop r.at_ = enc x ++ rest) :
    Calls Try.prog 37 #[.pointer (some ⟨r.g, 0, none⟩), .agg x.cells] w fun q w' => q = .returned (.bool true) ∧ Turns w w' r.own (r.on (enc x).length).own := by
  obtain ⟨k, n, b, s⟩ := x
  obtain ⟨hx1, hx2, hx3⟩ := hx
  simp only [] at hx1 hx2 hx3 h1 h2 h3
  have HS := Lib.hid (Turns.refl hs)
  clear hs
  have hk : k = 1 ∨ k = 2 ∨ k = 3 ∨ k = 4 ∨ k = 5 := by omega
  clear h1 h2 hx1
  have HD := Lib.hid hd
  have HK : Hid (Blk (w.alloc (.cells #[.int .i64 k, .int .i64 n, .bool b, .string s] 36)) w.heap.size #[.int .i64 k, .int .i64 n, .bool b, .string s] 36) := Blk.new _ _ _
  clear hd
  have HE := Lib.hid he
  clear he
  rcases hk with rfl | rfl | rfl | rfl | rfl
  · have hq := back_num r HE.out rest n n b s (h3 rfl) hx2.2 (Int.le_refl _) HD.out
    have HC := fun W h => rnum_all r W h hg n
    rw [hq] at HC
    generalize r.on _ = r' at *
    have HCC := Lib.hid HC
    clear HC hq h3
    simp only [ItA.cells]
    go_enter Try.func37, Try.ntmps37
    go_wp2_with fail
    go_region_held3 (fun w' => w'.cell? ⟨w.heap.size, 1, none⟩ = some (.int .i64 n)) (go_keep)
      (first
        | (go_at_call 38; refine (HCC.out _ (by exact ((HS.out.alloc _).drewN _).now)).mono ?_; rintro q w1 ⟨rfl, ht⟩; have HT := Lib.hid ht; obtain ⟨d0, d1, d2, d3, f0, f1, f2, f3⟩ := (Blk.beside HS.out.now HK.out.drew (by omega) ht).four; clear ht))
    go_wp2_with fail
    go_ret
    exact ⟨by simp, Turns.boxes HS.out.now (((Chg.refl _ _).alloc _).drewN _) HT.out (by (repeat (first | (with_reducible exact Chg.refl _ _) | (with_reducible refine Chg.set ?_ (Or.inr ⟨by first | (simp; done) | (simp; omega), by first | (simp; done) | (simp; omega)⟩) _) | (with_reducible refine Chg.set ?_ (Or.inl (by simp)) _) | (with_reducible refine Chg.alloc ?_ _) | (with_reducible refine Chg.drew ?_) | (with_reducible refine Chg.drewN ?_ _))))⟩
  · have hq := back_signed r HE.out rest n b s hx2.1 hx2.2 HD.out
    have HC := fun W h => rsigned_all r W h hg
    rw [hq] at HC
    generalize r.on _ = r' at *
    have HCC := Lib.hid HC
    clear HC hq h3
    simp only [ItA.cells]
    go_enter Try.func37, Try.ntmps37
    go_wp2_with fail
    go_region_held3 (fun w' => w'.cell? ⟨w.heap.size, 1, none⟩ = some (.int .i64 n)) (go_keep)
      (first
        | (go_at_call 62; refine (HCC.out _ (by exact ((HS.out.alloc _).drewN _).now)).mono ?_; rintro q w1 ⟨rfl, ht⟩; have HT := Lib.hid ht; obtain ⟨d0, d1, d2, d3, f0, f1, f2, f3⟩ := (Blk.beside HS.out.now HK.out.drew (by omega) ht).four; clear ht))
    go_wp2_with fail
    go_ret
    exact ⟨by simp, Turns.boxes HS.out.now (((Chg.refl _ _).alloc _).drewN _) HT.out (by (repeat (first | (with_reducible exact Chg.refl _ _) | (with_reducible refine Chg.set ?_ (Or.inr ⟨by first | (simp; done) | (simp; omega), by first | (simp; done) | (simp; omega)⟩) _) | (with_reducible refine Chg.set ?_ (Or.inl (by simp)) _) | (with_reducible refine Chg.alloc ?_ _) | (with_reducible refine Chg.drew ?_) | (with_reducible refine Chg.drewN ?_ _))))⟩
  · have hq := back_bool r HE.out rest n b s HD.out
    have HC := fun W h => rbool_all r W h hg
    rw [hq] at HC
    generalize r.on _ = r' at *
    have HCC := Lib.hid HC
    clear HC hq h3
    simp only [ItA.cells]
    go_enter Try.func37, Try.ntmps37
    go_wp2_with fail
    go_region_held3 (fun w' => w'.cell? ⟨w.heap.size, 2, none⟩ = some (.bool b)) (go_keep)
      (first
        | (go_at_call 73; refine (HCC.out _ (by exact ((HS.out.alloc _).drewN _).now)).mono ?_; rintro q w1 ⟨rfl, ht⟩; have HT := Lib.hid ht; obtain ⟨d0, d1, d2, d3, f0, f1, f2, f3⟩ := (Blk.beside HS.out.now HK.out.drew (by omega) ht).four; clear ht))
    go_wp2_with fail
    go_ret
    exact ⟨by simp, Turns.boxes HS.out.now (((Chg.refl _ _).alloc _).drewN _) HT.out (by (repeat (first | (with_reducible exact Chg.refl _ _) | (with_reducible refine Chg.set ?_ (Or.inr ⟨by first | (simp; done) | (simp; omega), by first | (simp; done) | (simp; omega)⟩) _) | (with_reducible refine Chg.set ?_ (Or.inl (by simp)) _) | (with_reducible refine Chg.alloc ?_ _) | (with_reducible refine Chg.drew ?_) | (with_reducible refine Chg.drewN ?_ _))))⟩
  · have hq := back_some r HE.out rest 4 n s.size b s (Or.inl rfl) hg (Int.le_refl _) hx3 HD.out
    have HC := fun W h => rtext_all r W h hg s.size
    rw [hq] at HC
    generalize r.on _ = r' at *
    have hst : (⟨s.data.toList.toArray⟩ : ByteArray) = s := by cases s; simp
    rw [hst] at HC
    have HCC := Lib.hid HC
    clear HC hq h3
    simp only [ItA.cells]
    go_enter Try.func37, Try.ntmps37
    go_wp2_with fail
    go_region_held3 (fun w' => w'.cell? ⟨w.heap.size, 3, none⟩ = some (.string s)) (go_keep)
      (first
        | (go_at_call 75; refine (HCC.out _ (by exact ((HS.out.alloc _).drewN _).now)).mono ?_; rintro q w1 ⟨rfl, ht⟩; have HT := Lib.hid ht; obtain ⟨d0, d1, d2, d3, f0, f1, f2, f3⟩ := (Blk.beside HS.out.now HK.out.drew (by omega) ht).four; clear ht))
    go_wp2_with fail
    go_ret
    exact ⟨by simp, Turns.boxes HS.out.now (((Chg.refl _ _).alloc _).drewN _) HT.out (by (repeat (first | (with_reducible exact Chg.refl _ _) | (with_reducible refine Chg.set ?_ (Or.inr ⟨by first | (simp; done) | (simp; omega), by first | (simp; done) | (simp; omega)⟩) _) | (with_reducible refine Chg.set ?_ (Or.inl (by simp)) _) | (with_reducible refine Chg.alloc ?_ _) | (with_reducible refine Chg.drew ?_) | (with_reducible refine Chg.drewN ?_ _))))⟩
  · have hq := back_some r HE.out rest 5 n 9223372036854775807 b s (Or.inr rfl) hg (by omega) hx3 HD.out
    have HC := fun W h => rbytes_all r W h hg 9223372036854775807
    rw [hq] at HC
    generalize r.on _ = r' at *
    have hst : (⟨s.data.toList.toArray⟩ : ByteArray) = s := by cases s; simp
    generalize s.data.toList = l at HC hst
    have HCC := Lib.hid HC
    clear HC hq h3
    simp only [ItA.cells]
    go_enter Try.func37, Try.ntmps37
    go_wp2_with (go_at_call 31; refine (HCC.out _ (by exact (HS.out.alloc _).now)).mono ?_; rintro q w1 ⟨A, c, rfl, ht0⟩; have hcv := conv_src w1 _ _ (Src.of_own ht0.now.1); rw [hst] at hcv; have ht := ht0.dropL; clear ht0; have HT := Lib.hid ht; obtain ⟨d0, d1, d2, d3, f0, f1, f2, f3⟩ := (Blk.beside HS.out.now HK.out (by omega) ht).four; clear ht)
    go_ret
    exact ⟨by simp, Turns.boxes HS.out.now ((Chg.refl _ _).alloc _) HT.out (by (repeat (first | (with_reducible exact Chg.refl _ _) | (with_reducible refine Chg.set ?_ (Or.inr ⟨by first | (simp; done) | (simp; omega), by first | (simp; done) | (simp; omega)⟩) _) | (with_reducible refine Chg.set ?_ (Or.inl (by simp)) _) | (with_reducible refine Chg.alloc ?_ _) | (with_reducible refine Chg.drew ?_) | (with_reducible refine Chg.drewN ?_ _))))⟩
end Go.Proofs.Ytkpgdonpmfebaaa.Bt
