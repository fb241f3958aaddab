/- The reader of package bits: an item's bytes. -/
import Derived.Test.YtkpgdonpmfebaaaProg
import Derived.Test.YtkpgdonpmfebaaaBrS
import Derived.WalkKit
import Derived.ProofKit
import Derived.BigQuiet
import Derived.Deep.QuietTactic
import Derived.Deep.RegionHeld3
import Derived.StillTailTactics
import Derived.Lib.Hide
import Derived.OwnWalk
import Derived.Laws.BitsAllLaws
namespace Go.Proofs.Ytkpgdonpmfebaaa.Bt
open Go.RowKit Go.Hp
attribute [local go_sem] min2_lean min_two max2_lean max_two
set_option linter.unusedSimpArgs false
set_option linter.unusedVariables false
set_option maxRecDepth 100000

theorem fail_new (x : Nat) (c : Int) (w : World) (h : w.cell? ⟨x, 2, none⟩ = some (.int .i64 0)) (hf : w.frozen? ⟨x, 2, none⟩ = false) :
    Calls Try.prog 99 #[.pointer (some ⟨x, 0, none⟩), .int .i64 c] w fun r w' => r = .returned (.tuple #[]) ∧ w' = w.setCell ⟨x, 2, none⟩ (.int .i64 c) := by
  go_enter Try.func99, Try.ntmps99
  go_wp2
  go_end0
  exact ⟨rfl, rfl⟩
theorem one_err (s : ItS) (w : World) (hs : s.own.holds w) (he : (s.e == 0) = false) :
    Calls Try.prog 98 #[.pointer (some ⟨s.x, 0, none⟩)] w fun r w' => r = .returned (.int .u8 0) ∧ w = w' := by
  obtain ⟨c0, c1, c2, f1, f2⟩ := ItS.cells hs
  have hd : (s.e != 0) = true := by simpa using he
  clear hs
  go_enter Try.func98, Try.ntmps98
  go_wp2
  go_ret
  exact ⟨rfl, rfl⟩
theorem one_short (s : ItS) (w : World) (hs : s.own.holds w) (he : s.e = 0) (ha : s.at_ = s.r.bs.length) (hl : s.r.bs.length < 4611686018427387904) :
    Calls Try.prog 98 #[.pointer (some ⟨s.x, 0, none⟩)] w fun r w' => r = .returned (.int .u8 0) ∧ Turns w w' s.own ({ s with e := 10 } : ItS).own := by
  obtain ⟨c0, c1, c2, f1, f2⟩ := ItS.cells hs
  obtain ⟨d0, d1, d2, _, _⟩ := RdS.cells hs.2.1
  obtain ⟨A, c, hv⟩ := RdS.form hs.2.1
  rw [hv] at d0
  rw [he] at c2
  have hd : (((s.at_ : Nat) : Int) == ((s.r.bs.length : Nat) : Int)) = true := by simp [ha]
  have HS := Lib.hid hs
  clear hs
  go_enter Try.func98, Try.ntmps98
  go_wp2
  go_quiet (fail)
  go_wp2_with (go_at_call 99; refine (fail_new s.x 10 _ (by exact c2) (by exact f2)).mono ?_; rintro r w1 ⟨rfl, rfl⟩)
  go_ret
  exact ⟨rfl, ((Turns.refl HS.out).drewN _).trans (ItS.setE (by exact ((Turns.refl HS.out).drewN _).now) 10)⟩
theorem one_ok (s : ItS) (w : World) (hs : s.own.holds w) (he : s.e = 0) (ha : s.at_ < s.r.bs.length) (hl : s.r.bs.length < 4611686018427387904) :
    Calls Try.prog 98 #[.pointer (some ⟨s.x, 0, none⟩)] w fun r w' => r = .returned (bv s.r.bs[s.at_]) ∧ Turns w w' s.own ({ s with at_ := s.at_ + 1 } : ItS).own := by
  obtain ⟨c0, c1, c2, f1, f2⟩ := ItS.cells hs
  obtain ⟨d0, d1, d2, _, _⟩ := RdS.cells hs.2.1
  obtain ⟨gv, c, hv, hcell, hlc⟩ := RdS.byte hs.2.1 s.at_ ha
  rw [hv] at d0
  rw [he] at c2
  have hd : (((s.at_ : Nat) : Int) == ((s.r.bs.length : Nat) : Int)) = false := by simp; omega
  have hw1 : IntKind.i64.wrap ((s.at_ : Int) + 1) = (s.at_ : Int) + 1 := IntWalk.i64_in _ (by omega)
  have hw2 : IntKind.i64.wrap ((s.at_ : Int) + 1 - 1) = (s.at_ : Int) := by rw [IntWalk.i64_in _ (by omega)]; omega
  have HS := Lib.hid hs
  clear hs
  go_enter Try.func98, Try.ntmps98
  go_wp2
  go_quiet (fail)
  go_wp2
  obtain ⟨W, hW⟩ : ∃ W, W = (w.drewN nq).setCell ⟨s.x, 1, none⟩ (.int .i64 ((s.at_ : Int) + 1)) := ⟨_, rfl⟩
  rw [← hW]
  have HT : Hid (Turns w W s.own ({ s with at_ := s.at_ + 1 } : ItS).own) := by rw [hW]; exact ((Turns.refl HS.out).drewN _).trans (ItS.setAt (by exact ((Turns.refl HS.out).drewN _).now) (s.at_ + 1) _ (by simp))
  clear hW
  obtain ⟨k0, k1, _, _, _⟩ := ItS.cells HT.out.now
  obtain ⟨e0, _, _, _, _⟩ := RdS.cells HT.out.now.2.1
  obtain ⟨gv', c', hv', hc', _⟩ := RdS.byte HT.out.now.2.1 s.at_ ha
  simp only [] at k0 k1 e0 hv' hc'
  obtain ⟨rfl, rfl⟩ : gv = gv' ∧ c = c' := by rw [hv] at hv'; simpa using hv'
  rw [hv] at e0
  rw [show (((s.at_ + 1 : Nat)) : Int) = (s.at_ : Int) + 1 by simp] at k1
  have hi1 : decide ((s.at_ : Int) < 0) = false := by simp
  have hi2 : decide ((s.at_ : Int) < (s.r.bs.length : Int)) = true := by simp; omega
  generalize hb : bv s.r.bs[s.at_] = u at *
  obtain ⟨z, rfl⟩ : ∃ z, u = .int .u8 z := ⟨_, hb.symm⟩
  have HB := Lib.hid hb
  clear hb
  go_quiet (fail)
  go_wp2
  go_ret
  have h2 := HT.out
  rw [he] at h2
  exact ⟨by rw [HB.out]; rfl, h2.drewN _⟩
end Go.Proofs.Ytkpgdonpmfebaaa.Bt
