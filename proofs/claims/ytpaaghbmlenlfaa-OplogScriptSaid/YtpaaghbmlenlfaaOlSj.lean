/- Both logs' answers that change nothing, by what they say: Base, Op, Room, At, Newest; the document's From. -/
import Derived.Test.YtpaaghbmlenlfaaOlSg
import Derived.Test.YtpaaghbmlenlfaaOlSh
namespace Go.Proofs.Ytpaaghbmlenlfaa.Ol
open Go.Hp.M7
open Go.RowKit Go.Hp
attribute [local go_sem] min2_lean min_two max2_lean max_two
set_option linter.unusedSimpArgs false
set_option linter.unusedVariables false
set_option maxRecDepth 100000
theorem pView (g pb m : Nat) (A : Ab) (w : World) (h : (pO g pb m A).holds w) : ∃ fi : Nat, w.cell? ⟨g, 0, none⟩ = some (.int .i64 A.1) ∧ w.cell? ⟨g, 1, none⟩ = some (.slice (some ⟨pb, 0, none⟩) m m) ∧ w.cell? ⟨g, 2, none⟩ = some (.int .i64 fi) ∧ w.cell? ⟨g, 3, none⟩ = some (.int .i64 A.2.length) := by
  obtain ⟨s, h1, h2⟩ := h
  obtain ⟨c0, c1, c2, c3⟩ := LogS.cells h2
  rw [h1.g] at c0 c1 c2 c3
  rw [h1.b] at c0
  rw [h1.pb, h1.m] at c1
  rw [h1.many] at c3
  exact ⟨_, c0, c1, c2, c3⟩
theorem pBase (g pb m : Nat) (A : Ab) (w : World) (h : (pO g pb m A).holds w) : Calls Try.prog 24 #[.pointer (some ⟨g, 0, none⟩)] w fun e w' => e = .returned (.int .i64 A.1) ∧ w' = w := by
  obtain ⟨fi, c0, c1, c2, c3⟩ := pView g pb m A w h
  exact (base_any g A.1 w c0).mono fun r w' h => ⟨h.1, h.2.symm⟩
theorem pOp (g pb m : Nat) (A : Ab) (w : World) (h : (pO g pb m A).holds w) : Calls Try.prog 25 #[.pointer (some ⟨g, 0, none⟩)] w fun e w' => e = .returned (.int .i64 (A.1 + A.2.length)) ∧ Chg (fun _ => False) w w' := by
  obtain ⟨fi, c0, c1, c2, c3⟩ := pView g pb m A w h
  have hok := pO_ok h
  have l1 := hok.len
  have l2 := hok.m64
  have l3 := hok.b0
  have l4 := hok.b1
  refine (op_any g A.1 A.2.length w c0 c3 l3 (by omega) (by omega) (by omega)).mono ?_
  rintro r w' ⟨rfl, n, rfl⟩
  exact ⟨rfl, (Chg.refl _ _).drewN n⟩
theorem pRoom (g pb m : Nat) (A : Ab) (w : World) (h : (pO g pb m A).holds w) : Calls Try.prog 26 #[.pointer (some ⟨g, 0, none⟩)] w fun e w' => e = .returned (.int .i64 ((m : Int) - A.2.length)) ∧ Chg (fun _ => False) w w' := by
  obtain ⟨fi, c0, c1, c2, c3⟩ := pView g pb m A w h
  have hok := pO_ok h
  have l1 := hok.len
  have l2 := hok.m64
  refine (room_any g pb m m A.2.length w c1 c3 (by omega) (by omega) (by omega)).mono ?_
  rintro r w' ⟨rfl, n, rfl⟩
  exact ⟨rfl, (Chg.refl _ _).drewN n⟩
theorem qOp (g m : Nat) (v : Value) (A : Ab) (w : World) (h : (qO g m v A).holds w) (hok : A.Ok m) : Calls Try.prog 38 #[.pointer (some ⟨g, 0, none⟩)] w fun e w' => e = .returned (.int .i64 (A.1 + A.2.length)) ∧ Chg (fun _ => False) w w' := by
  obtain ⟨c0, c1, c2⟩ := rO_cells h
  obtain ⟨Av, cv, rfl⟩ := rO_slice h
  have l1 := hok.len
  have l2 := hok.m64
  have l3 := hok.b0
  have l4 := hok.b1
  refine (rop_any g m A.1 Av A.2.length cv w c1 c2 l3 (by omega) (by omega)).mono ?_
  rintro r w' ⟨rfl, n, rfl⟩
  exact ⟨rfl, (Chg.refl _ _).drewN n⟩
theorem qRoom (g m : Nat) (v : Value) (A : Ab) (w : World) (h : (qO g m v A).holds w) (hok : A.Ok m) : Calls Try.prog 39 #[.pointer (some ⟨g, 0, none⟩)] w fun e w' => e = .returned (.int .i64 ((m : Int) - A.2.length)) ∧ Chg (fun _ => False) w w' := by
  obtain ⟨c0, c1, c2⟩ := rO_cells h
  obtain ⟨Av, cv, rfl⟩ := rO_slice h
  have l1 := hok.len
  have l2 := hok.m64
  refine (rroom_any g m Av A.2.length cv w c0 c2 (by omega) (by omega)).mono ?_
  rintro r w' ⟨rfl, n, rfl⟩
  exact ⟨rfl, (Chg.refl _ _).drewN n⟩
theorem qhas (g m : Nat) (v : Value) (A : Ab) (op : Int) (w : World) (h : (qO g m v A).holds w) (hok : A.Ok m) : Calls Try.prog 62 #[.pointer (some ⟨g, 0, none⟩), .int .i64 op] w fun e w' => e = .returned (.bool (decide (hasA A op))) ∧ Chg (fun _ => False) w w' := by
  have HO := Lib.hid (fun W h => qOp g m v A W h hok)
  obtain ⟨-, c1, -⟩ := rO_cells h
  have H := Lib.hid h
  clear h
  by_cases a : A.1 < op
  · have d1 : decide (A.1 < op) = true := by simpa using a
    have HA := Lib.hid a
    clear a
    go_enter Try.func62, Try.ntmps62
    go_wp2_with (first
      | (go_at_call 38; (with_reducible refine (HO.out _ (by exact H.out)).mono ?_); rintro r w1 ⟨rfl, hc⟩))
    go_ret
    refine ⟨?_, hc⟩
    have := HA.out
    by_cases b : op ≤ A.1 + A.2.length <;> simp [hasA, this, b]
  · have d1 : decide (A.1 < op) = false := by simpa using a
    have HA := Lib.hid a
    clear a
    go_enter Try.func62, Try.ntmps62
    go_wp2_with fail
    go_ret
    refine ⟨?_, Chg.refl _ _⟩
    have := HA.out
    have hn : ¬ hasA A op := fun h => by have := h.1; omega
    simp [hn]
/-- At. -/
def aAt (A : Ab) (op : Int) : En × Bool := if hasA A op then (A.2.getD (op - A.1 - 1).toNat default, true) else (En.zero, false)
theorem aAt_yes {A : Ab} {op : Int} {k : Nat} {e : En} (h : hasA A op) (hk : op = A.1 + k + 1) (he : A.2[k]? = some e) : aAt A op = (e, true) := by
  unfold aAt
  rw [if_pos h, show (op - A.1 - 1).toNat = k by omega, List.getD_eq_getElem?_getD, he]
  rfl
theorem pAt (g pb m : Nat) (A : Ab) (op : Int) (w : World) (h : (pO g pb m A).holds w) : Calls Try.prog 27 #[.pointer (some ⟨g, 0, none⟩), .int .i64 op] w fun e w' => e = .returned (.tuple #[.agg (aAt A op).1.cells.toArray, .bool (aAt A op).2]) ∧ Chg (fun _ => False) w w' := by
  obtain ⟨s, h1, h2⟩ := h
  have hm := h1.many
  rw [← h1.g]
  by_cases hh : hasA A op
  · have hh' := hh
    unfold hasA at hh'
    obtain ⟨k, hk⟩ : ∃ k : Nat, op = A.1 + k + 1 := ⟨(op - A.1 - 1).toNat, by omega⟩
    have hkl : k < A.2.length := by omega
    have he : A.2[k]? = some A.2[k] := List.getElem?_eq_getElem hkl
    rw [aAt_yes hh hk he]
    exact at_yes s k op A.2[k] w h2 h1.ok (by omega) (by rw [h1.b]; exact hk) (by rw [h1.l]; exact he)
  · have e : aAt A op = (En.zero, false) := by unfold aAt; rw [if_neg hh]
    rw [e]
    exact at_no s op w h2 h1.ok (by rw [h1.b, hm]; exact hh)
end Go.Proofs.Ytpaaghbmlenlfaa.Ol
