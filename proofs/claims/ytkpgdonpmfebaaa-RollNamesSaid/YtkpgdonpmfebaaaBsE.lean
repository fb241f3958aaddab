/- The law's kept lists of bytes, as a law uses them. -/
import Derived.Test.YtkpgdonpmfebaaaBsD
import Derived.Test.YtkpgdonpmfebaaaBwR
import Derived.Test.YtkpgdonpmfebaaaBlW8
namespace Go.Proofs.Ytkpgdonpmfebaaa.Bt.Kb
open Go.RowKit Go.Hp
set_option linter.unusedSimpArgs false
set_option linter.unusedVariables false
set_option maxRecDepth 100000
attribute [local go_sem] min2_lean min_two max2_lean max_two
/-- What a law knows of N kept lists. -/
def Kn (k : KS) (g N B : Nat) : Prop := k.g = g ∧ ∀ i, i < N → Gd (k.xs i) ∧ k.len i ≤ B
theorem keep_at (k : KS) (g N B M : Nat) (hM : N + 1 = M) (A : Option Addr) (n c : Nat) (xs : List Value) (w : World) (hk : Kn k g N B) (h : (Hp.Own.both (own k N 0) (Hp.Own.row 5 1 (.slice A n c) n xs)).holds w) (hg : Gd xs) (hn : n ≤ B) (hB : B ≤ 140737488351232) (hN : N ≤ 3518437208781) :
    Calls Try.prog 21 #[.pointer (some ⟨g, 0, none⟩), .slice A n c] w fun e w' => e = .returned (.tuple #[]) ∧ ∃ k', Kn k' g M B ∧ Turns w w' (Hp.Own.both (own k N 0) (Hp.Own.row 5 1 (.slice A n c) n xs)) (own k' M 0) := by
  subst hM
  obtain ⟨rfl, hx⟩ := hk
  refine (keep_any k N A n c xs w h hg (by omega) (by omega)).mono ?_
  rintro e w' ⟨rfl, ov, wv, y, ht⟩
  refine ⟨rfl, k.add N ov wv (.slice A n c) y n xs, ⟨rfl, fun i hi => ?_⟩, ht⟩
  show Gd (if i = N then xs else k.xs i) ∧ (if i = N then n else k.len i) ≤ B
  by_cases h : i = N
  · rw [if_pos h, if_pos h]; exact ⟨hg, hn⟩
  · rw [if_neg h, if_neg h]; exact hx i (by omega)
theorem spoil_at (k : KS) (g N B : Nat) (w : World) (hk : Kn k g N B) (h : (own k N 0).holds w) (hB : B ≤ 140737488351232) (hN : N ≤ 3518437208781) :
    Calls Try.prog 23 #[.pointer (some ⟨g, 0, none⟩)] w fun e w' => e = .returned (.bool true) ∧ Chg (own k N 0).foot w w' := by
  obtain ⟨rfl, hx⟩ := hk
  exact spoil_any k N w h (fun i hi => ⟨(hx i hi).1, Nat.le_trans (hx i hi).2 hB⟩) hN
theorem holds_at (k : KS) (g N B : Nat) (w : World) (hk : Kn k g N B) (h : (own k N 0).holds w) (hB : B ≤ 140737488351232) (hN : N ≤ 3518437208781) :
    Calls Try.prog 22 #[.pointer (some ⟨g, 0, none⟩)] w fun e w' => e = .returned (.bool true) ∧ Chg (fun _ => False) w w' := by
  obtain ⟨rfl, hx⟩ := hk
  exact holds_any k N 0 w h (Nat.zero_le _) (fun i hi => ⟨(hx i (by omega)).1, Nat.le_trans (hx i (by omega)).2 (by omega)⟩) (by omega)
end Go.Proofs.Ytkpgdonpmfebaaa.Bt.Kb
