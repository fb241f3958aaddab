/- The law's kept lists of floats, as a law uses them; whole contracts of Smooth. -/
import Derived.Test.YtgoimoaeeiobnaaGaSd
import Derived.Test.YtgoimoaeeiobnaaGaSr
import Derived.Test.YtgoimoaeeiobnaaGaKe
namespace Go.Proofs.Ytgoimoaeeiobnaa.Ga.Ks
open Go.RowKit Go.Hp Go.Fl
set_option linter.unusedSimpArgs false
set_option linter.unusedVariables false
set_option maxRecDepth 100000
attribute [local go_sem] run_store_float
/-- What a law knows of N kept lists. -/
def Kn (k : KS) (g N B : Nat) : Prop := k.g = g ∧ ∀ i, i < N → Gd (k.xs i) ∧ k.len i ≤ B
theorem keep_at (k : KS) (g N B M : Nat) (hM : N + 1 = M) (A : Option Addr) (n c : Nat) (xs : List Value) (w : World) (hk : Kn k g N B) (h : (Hp.Own.both (own k N 0) (Hp.Own.row 25 1 (.slice A n c) n xs)).holds w) (hg : Gd xs) (hn : n ≤ B) (hB : B ≤ 8796093022000) (hN : N ≤ 1099511627776) :
    Calls Try.prog 31 #[.pointer (some ⟨g, 0, none⟩), .slice A n c] w fun e w' => e = .returned (.tuple #[]) ∧ ∃ k', Kn k' g M B ∧ Turns w w' (Hp.Own.both (own k N 0) (Hp.Own.row 25 1 (.slice A n c) n xs)) (own k' M 0) := by
  subst hM
  obtain ⟨rfl, hx⟩ := hk
  refine (keep_any k N A n c xs w h hg (by omega) (by omega)).mono ?_
  rintro e w' ⟨rfl, ov, wv, y, ht⟩
  refine ⟨rfl, k.add N ov wv (.slice A n c) y n xs, ⟨rfl, fun i hi => ?_⟩, ht⟩
  show Gd (if i = N then xs else k.xs i) ∧ (if i = N then n else k.len i) ≤ B
  by_cases h : i = N
  · rw [if_pos h, if_pos h]; exact ⟨hg, hn⟩
  · rw [if_neg h, if_neg h]; exact hx i (by omega)
theorem spoil_at (k : KS) (g N B : Nat) (w : World) (hk : Kn k g N B) (h : (own k N 0).holds w) (hB : B ≤ 8796093022000) (hN : N ≤ 1099511627776) :
    Calls Try.prog 32 #[.pointer (some ⟨g, 0, none⟩)] w fun e w' => e = .returned (.bool true) ∧ Chg (own k N 0).foot w w' := by
  obtain ⟨rfl, hx⟩ := hk
  exact spoil_any k N w h (fun i hi => ⟨(hx i hi).1, Nat.le_trans (hx i hi).2 hB⟩) hN
end Go.Proofs.Ytgoimoaeeiobnaa.Ga.Ks
namespace Go.Proofs.Ytgoimoaeeiobnaa.Ga
open Go.RowKit Go.Hp Go.Fl
set_option linter.unusedSimpArgs false
set_option linter.unusedVariables false
set_option maxRecDepth 100000
def smZ (p : Nat) (l : List Int) : List Value := if 4096 < l.length then [] else if shareB p = true then smF p l l.length else []
def smE (p : Nat) (l : List Int) : Int := if 4096 < l.length then 220 else if shareB p = true then 0 else 221
theorem smF_len (p : Nat) (l : List Int) (k : Nat) : (smF p l k).length = k := by unfold smF; simp
theorem smZ_len (p : Nat) (l : List Int) : (smZ p l).length ≤ 5000 := by
  unfold smZ
  split
  · simp
  · split
    · rw [smF_len]; omega
    · simp
theorem smZ_gd (p : Nat) (l : List Int) (hi : I64 l) : Ks.Gd (smZ p l) := by
  unfold smZ
  split
  · exact ⟨[], fun z hz => (by cases hz), rfl⟩
  · split
    · rename_i hp
      refine ⟨(List.range l.length).map (smAt p l), fun z hz => ?_, by unfold smF Ks.fv; simp⟩
      obtain ⟨i, hil, rfl⟩ := List.mem_map.1 hz
      have h := (smAt_ok hp hi i (by simpa using hil)).1
      rw [order_val h h, compare_self]
    · exact ⟨[], fun z hz => (by cases hz), rfl⟩
/-- A row of floats. -/
def rf (X : Option Addr) (n c : Nat) (xs : List Value) : Hp.Own := Hp.Own.row 25 1 (.slice X n c) n xs
def SmOwn (p : Nat) (l : List Int) (w : World) (e : Ending) (w' : World) : Prop := ∃ X cx, e = .returned (.tuple #[.slice X (smZ p l).length cx, .int .i64 (smE p l)]) ∧ Turns w w' Hp.Own.emp (rf X (smZ p l).length cx (smZ p l))
theorem smooth_own (A : Option Addr) (n c p : Nat) (l : List Int) (w : World) (hs : Sl w A l) (hi : I64 l) (hl : l.length = n) :
    Calls Try.prog 29 #[.slice A n c, .float .f64 p] w (SmOwn p l w) := by
  unfold SmOwn smZ smE
  by_cases h1 : 4096 < l.length
  · rw [if_pos h1, if_pos h1]
    refine (smooth_many A n c p w (by omega)).mono ?_
    rintro e w' ⟨rfl, rfl⟩
    exact ⟨none, 0, rfl, ⟨Chg.refl _ _, World.ownsRow_nil _ _ _ _, fun b hb => by cases hb⟩⟩
  · rw [if_neg h1, if_neg h1]
    by_cases h2 : shareB p = true
    · rw [if_pos h2, if_pos h2, smF_len, hl]
      exact smooth_ok A n c p l w hs hi hl (by omega) h2
    · rw [if_neg h2, if_neg h2]
      refine (smooth_bad A n c p w (by omega) (by simpa using h2)).mono ?_
      rintro e w' ⟨rfl, rfl⟩
      exact ⟨none, 0, rfl, ⟨Chg.refl _ _, World.ownsRow_nil _ _ _ _, fun b hb => by cases hb⟩⟩
theorem rsmooth_own (A : Option Addr) (n c p : Nat) (l : List Int) (w : World) (hs : Sl w A l) (hi : I64 l) (hl : l.length = n) :
    Calls Try.prog 28 #[.slice A n c, .float .f64 p] w (SmOwn p l w) := by
  unfold SmOwn smZ smE
  by_cases h1 : 4096 < l.length
  · rw [if_pos h1, if_pos h1]
    refine (rsmooth_many A n c p w (by omega)).mono ?_
    rintro e w' ⟨rfl, rfl⟩
    exact ⟨none, 0, rfl, ⟨Chg.refl _ _, World.ownsRow_nil _ _ _ _, fun b hb => by cases hb⟩⟩
  · rw [if_neg h1, if_neg h1]
    by_cases h2 : shareB p = true
    · rw [if_pos h2, if_pos h2, smF_len, hl]
      exact rsmooth_ok A n c p l w hs hi hl (by omega) h2
    · rw [if_neg h2, if_neg h2]
      refine (rsmooth_bad A n c p w (by omega) (by simpa using h2)).mono ?_
      rintro e w' ⟨rfl, rfl⟩
      exact ⟨none, 0, rfl, ⟨Chg.refl _ _, World.ownsRow_nil _ _ _ _, fun b hb => by cases hb⟩⟩
theorem same_rf (A B : Option Addr) (n c d : Nat) (xs : List Value) (w : World) (hs : (rf A n c xs).holds w) (ht : (rf B n d xs).holds w) (hg : Ks.Gd xs) (hn : n ≤ 17592186044416) :
    Calls Try.prog 30 #[.slice A n c, .slice B n d] w fun e w' => e = .returned (.bool true) ∧ Chg (fun _ => False) w w' := by
  refine (Ks.same_src A B n c d xs w (Src.of_own (show w.ownsRow 0 25 1 (.slice A n c) n xs from hs)) (Src.of_own (show w.ownsRow 0 25 1 (.slice B n d) n xs from ht)) hg hn).mono ?_
  rintro e w' ⟨rfl, q, rfl⟩
  exact ⟨rfl, (Chg.refl _ _).drewN q⟩
end Go.Proofs.Ytgoimoaeeiobnaa.Ga
