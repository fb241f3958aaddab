/- The reader of package bits: its methods. -/
import Derived.Test.YtkpgdonpmfebaaaBrB
import Derived.Defers
namespace Go.Proofs.Ytkpgdonpmfebaaa.Bt
open Go.RowKit Go.Hp
attribute [local go_sem] min2_lean min_two max2_lean max_two
set_option linter.unusedSimpArgs false
set_option linter.unusedVariables false
set_option maxRecDepth 100000

theorem Turns.newl {w : World} {O : Own} (h : O.holds w) (cs : Array Value) (T : TypeId) : Turns w (w.alloc (.cells cs T)) O (Own.both (Own.blk w.heap.size cs T) O) :=
  ⟨(Chg.refl _ _).alloc _, ⟨Blk.new _ _ _, Own.chg h ((Chg.refl (fun _ => False) _).alloc _) (fun _ _ hf => hf), fun b h1 h2 => by
    have h1 : b = w.heap.size := h1
    have := O.lt h b h2
    omega⟩, fun b hb => by
    rcases hb with hb | hb
    · have hb : b = w.heap.size := hb
      exact Or.inr (by omega)
    · exact Or.inl hb⟩
theorem begin_any (r : RdS) (w : World) (hs : r.own.holds w) :
    Calls Try.prog 80 #[.pointer (some ⟨r.g, 0, none⟩)] w fun q w' => ∃ x, q = .returned (.tuple #[.pointer (some ⟨x, 0, none⟩), .func (Fn.func 100) #[.pointer (some ⟨x, 0, none⟩)] #[]]) ∧
      Turns w w' r.own (ItS.mk x r r.at_ r.e).own := by
  obtain ⟨c0, c1, c2, f1, f2⟩ := RdS.cells hs
  have HS := Lib.hid hs
  have hmf : ∀ (fn : Fn) (first cap : Array Value) (w : World), (Instr.makeFunc fn first cap).run Try.prog w = .ok (.func fn first cap) w := fun _ _ _ _ => rfl
  clear hs
  go_enter Try.func80, Try.ntmps80
  go_wp2
  go_still_tail 10, (by kernel_rfl)
  change wpList _ _ _ _ _ (World.drew _)
  go_wp2
  go_ret2
  exact ⟨_, rfl, ((Turns.refl HS.out).drew).trans (Turns.newl (by exact (Turns.refl HS.out).drew.now) _ 143)⟩
/-- What an item leaves of its reader at its end. -/
def ItS.ended (s : ItS) : RdS := if s.r.e = 0 then (if s.e = 0 then { s.r with at_ := s.at_ } else { s.r with e := s.e }) else s.r
theorem Turns.dropl {w : World} {g : Nat} {cs : Array Value} {T : TypeId} {O : Own} (h : (Own.both (Own.blk g cs T) O).holds w) : Turns w w (Own.both (Own.blk g cs T) O) O :=
  ⟨Chg.refl _ _, h.2.1, fun b hb => Or.inl (Or.inr hb)⟩
theorem RdS.setAt {s : RdS} {w : World} (h : s.own.holds w) (k : Nat) : Turns w (w.setCell ⟨s.g, 1, none⟩ (.int .i64 k)) s.own ({ s with at_ := k } : RdS).own :=
  Turns.bothl h (SetBlk.of_set h.1 1 (.int .i64 k))
theorem RdS.setE {s : RdS} {w : World} (h : s.own.holds w) (u : Int) : Turns w (w.setCell ⟨s.g, 2, none⟩ (.int .i64 u)) s.own ({ s with e := u } : RdS).own :=
  Turns.bothl h (SetBlk.of_set h.1 2 (.int .i64 u))
theorem end_any (s : ItS) (w : World) (hs : s.own.holds w) (u : FrameMode) :
    CallsD Try.prog 100 #[.pointer (some ⟨s.x, 0, none⟩)] u w fun e u' w' => u' = u ∧ (e = .returned (.tuple #[]) ∧ Turns w w' s.own s.ended.own) := by
  obtain ⟨c0, c1, c2, f1, f2⟩ := ItS.cells hs
  obtain ⟨d0, d1, d2, g1, g2⟩ := RdS.cells hs.2.1
  have HS := Lib.hid hs
  clear hs
  by_cases h1 : s.r.e = 0
  · by_cases h2 : s.e = 0
    · have HE : s.ended = { s.r with at_ := s.at_ } := by rw [ItS.ended, if_pos h1, if_pos h2]
      rw [HE]
      clear HE
      rw [h1] at d2
      rw [h2] at c2
      go_enter_d Try.func100, Try.ntmps100
      go_wp2
      go_still_tail 10, (by kernel_rfl)
      change wpList _ _ _ _ _ (World.drew _)
      go_wp2
      go_end0
      exact ⟨rfl, (((Turns.refl HS.out).trans (Turns.dropl HS.out)).drew).trans (RdS.setAt (by exact (Turns.dropl HS.out).drew.now) s.at_)⟩
    · have HE : s.ended = { s.r with e := s.e } := by rw [ItS.ended, if_pos h1, if_neg h2]
      rw [HE]
      clear HE
      rw [h1] at d2
      have hd : (s.e != 0) = true := by simpa using h2
      go_enter_d Try.func100, Try.ntmps100
      go_wp2
      go_still_tail 10, (by kernel_rfl)
      change wpList _ _ _ _ _ (World.drew _)
      go_wp2
      refine bodyPost_ret (results_none rfl _ _ _) rfl ?_
      exact ⟨rfl, (((Turns.refl HS.out).trans (Turns.dropl HS.out)).drew).trans (RdS.setE (by exact (Turns.dropl HS.out).drew.now) s.e)⟩
  · have HE : s.ended = s.r := by rw [ItS.ended, if_neg h1]
    have hd : (s.r.e != 0) = true := by simpa using h1
    rw [HE]
    clear HE
    go_enter_d Try.func100, Try.ntmps100
    go_wp2
    refine bodyPost_ret (results_none rfl _ _ _) rfl ?_
    exact ⟨rfl, Turns.dropl HS.out⟩
end Go.Proofs.Ytkpgdonpmfebaaa.Bt
