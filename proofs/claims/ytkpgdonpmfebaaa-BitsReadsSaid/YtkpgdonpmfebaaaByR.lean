/- The law's helper read: one step, by the program and by the document. -/
import Derived.Test.YtkpgdonpmfebaaaByB
import Derived.Test.YtkpgdonpmfebaaaBsE
namespace Go.Proofs.Ytkpgdonpmfebaaa.Bt
open Go.RowKit Go.Hp
attribute [local go_sem] min2_lean min_two max2_lean max_two
set_option linter.unusedSimpArgs false
set_option linter.unusedVariables false
set_option maxRecDepth 100000
/-- A pair of readers, and that they are at the same place. -/
def rp (r x : RdS) : Hp.Own := Hp.Own.both r.own x.xown
def Tw (r x : RdS) : Prop := x.bs = r.bs ∧ x.at_ = r.at_ ∧ x.e = r.e
theorem Tw.num {r x : RdS} (h : Tw r x) (n : Int) : (x.num n).1 = (r.num n).1 ∧ Tw (r.num n).2 (x.num n).2 := by
  obtain ⟨g, v, bs, a, e⟩ := r; obtain ⟨g', v', bs', a', e'⟩ := x
  obtain ⟨rfl, rfl, rfl⟩ := h
  unfold RdS.num ItS.ended Tw
  split <;> (try split) <;> simp
theorem Tw.signed {r x : RdS} (h : Tw r x) : x.signed.1 = r.signed.1 ∧ Tw r.signed.2 x.signed.2 := by
  obtain ⟨g, v, bs, a, e⟩ := r; obtain ⟨g', v', bs', a', e'⟩ := x
  obtain ⟨rfl, rfl, rfl⟩ := h
  unfold RdS.signed ItS.ended Tw
  split <;> (try split) <;> simp
theorem Tw.bool {r x : RdS} (h : Tw r x) : x.bool.1 = r.bool.1 ∧ Tw r.bool.2 x.bool.2 := by
  obtain ⟨g, v, bs, a, e⟩ := r; obtain ⟨g', v', bs', a', e'⟩ := x
  obtain ⟨rfl, rfl, rfl⟩ := h
  unfold RdS.bool ItS.ended Tw
  split <;> (try split) <;> simp
theorem Tw.some {r x : RdS} (h : Tw r x) (n : Int) : (x.some n).1 = (r.some n).1 ∧ Tw (r.some n).2 (x.some n).2 := by
  obtain ⟨g, v, bs, a, e⟩ := r; obtain ⟨g', v', bs', a', e'⟩ := x
  obtain ⟨rfl, rfl, rfl⟩ := h
  unfold RdS.some ItS.ended Tw
  split <;> (try split) <;> simp
def RdS.fail (r : RdS) (c : Int) : RdS := if r.e = 0 then { r with e := c } else r
theorem Tw.fail {r x : RdS} (h : Tw r x) (n : Int) : Tw (r.fail n) (x.fail n) := by
  obtain ⟨g, v, bs, a, e⟩ := r; obtain ⟨g', v', bs', a', e'⟩ := x
  obtain ⟨rfl, rfl, rfl⟩ := h
  unfold RdS.fail Tw
  split <;> (try split) <;> simp_all
theorem Tw.closed {r x : RdS} (h : Tw r x) : Tw r.closed x.closed := by
  obtain ⟨g, v, bs, a, e⟩ := r; obtain ⟨g', v', bs', a', e'⟩ := x
  obtain ⟨rfl, rfl, rfl⟩ := h
  unfold RdS.closed Tw
  split <;> (try split) <;> simp_all
/-- What a step leaves of a reader. -/
def stp (r : RdS) (k n : Int) : RdS :=
  if k = 1 then (r.num n).2 else if k = 2 then r.signed.2 else if k = 3 then r.bool.2 else if k = 4 then (r.some n).2 else if k = 5 then (r.some n).2 else if k = 7 then r.fail n else if k = 9 then r.closed else r
theorem Tw.stp {r x : RdS} (h : Tw r x) (k n : Int) : Tw (stp r k n) (stp x k n) := by
  unfold Bt.stp
  split
  · exact (h.num n).2
  split
  · exact h.signed.2
  split
  · exact h.bool.2
  split
  · exact (h.some n).2
  split
  · exact (h.some n).2
  split
  · exact h.fail n
  split
  · exact h.closed
  · exact h
/-- A reader's bytes stay, and its place is one of them. -/
def Ke (r r' : RdS) : Prop := r'.g = r.g ∧ r'.bs = r.bs ∧ r'.at_ ≤ r'.bs.length
theorem ended_ke (r : RdS) (a : Nat) (e : Int) (h : r.at_ ≤ r.bs.length) (ha : a ≤ r.bs.length) : Ke r (ItS.mk 0 r a e).ended := by
  unfold ItS.ended Ke
  split
  · split
    · exact ⟨rfl, rfl, ha⟩
    · exact ⟨rfl, rfl, h⟩
  · exact ⟨rfl, rfl, h⟩
theorem someOf_place (most : Int) (bs : List UInt8) (a : Nat) (ha : a ≤ bs.length) : (someOf most bs a).2.1 ≤ bs.length := by
  have h := numOf_bounds most 14 bs a ha (by decide)
  unfold someOf
  simp only []
  split
  · split
    · exact h.2.2.2.1
    · simp only []; omega
  · exact h.2.2.2.1
theorem boolOf_place (bs : List UInt8) (a : Nat) (ha : a ≤ bs.length) : (boolOf bs a).2.1 ≤ bs.length := by
  unfold boolOf
  split
  · split <;> (simp only []; omega)
  · exact ha
theorem stp_ke (r : RdS) (k n : Int) (h : r.at_ ≤ r.bs.length) : Ke r (stp r k n) := by
  have h0 : Ke r r := ⟨rfl, rfl, h⟩
  have h1 := numOf_bounds n 13 r.bs r.at_ h (by decide)
  have h2 := gr_place 10 1 r.bs 10 0 0 r.at_ h
  unfold stp
  split
  · unfold RdS.num; split
    · exact ended_ke _ _ _ h h1.2.2.2.1
    · exact h0
  split
  · unfold RdS.signed; split
    · exact ended_ke _ _ _ h h2.2
    · exact h0
  split
  · unfold RdS.bool; split
    · exact ended_ke _ _ _ h (boolOf_place _ _ h)
    · exact h0
  split
  · unfold RdS.some; split
    · exact ended_ke _ _ _ h (someOf_place _ _ _ h)
    · exact h0
  split
  · unfold RdS.some; split
    · exact ended_ke _ _ _ h (someOf_place _ _ _ h)
    · exact h0
  split
  · unfold RdS.fail; split
    · exact ⟨rfl, rfl, h⟩
    · exact h0
  split
  · unfold RdS.closed; split
    · split
      · exact ⟨rfl, rfl, h⟩
      · exact h0
    · exact h0
  · exact h0
end Go.Proofs.Ytkpgdonpmfebaaa.Bt
