/- The law's kept lists of numbers, as a law uses them; whole contracts of Bars. -/
import Derived.Test.YtgoimoaeeiobnaaGaKd
import Derived.Test.YtgoimoaeeiobnaaGaRb
import Derived.Test.YtgoimoaeeiobnaaGaL3
namespace Go.Proofs.Ytgoimoaeeiobnaa.Ga.Kc
open Go.RowKit Go.Hp Go.Fl
set_option linter.unusedSimpArgs false
set_option linter.unusedVariables false
set_option maxRecDepth 100000
attribute [local go_sem] run_store_float
/-- What a law knows of N kept lists. -/
def Kn (k : KS) (g N B : Nat) : Prop := k.g = g ∧ ∀ i, i < N → Gd (k.xs i) ∧ k.len i ≤ B
theorem keep_at (k : KS) (g N B M : Nat) (hM : N + 1 = M) (A : Option Addr) (n c : Nat) (xs : List Value) (w : World) (hk : Kn k g N B) (h : (Hp.Own.both (own k N 0) (Hp.Own.row 3 1 (.slice A n c) n xs)).holds w) (hg : Gd xs) (hn : n ≤ B) (hB : B ≤ 8796093022000) (hN : N ≤ 1099511627776) :
    Calls Try.prog 26 #[.pointer (some ⟨g, 0, none⟩), .slice A n c] w fun e w' => e = .returned (.tuple #[]) ∧ ∃ k', Kn k' g M B ∧ Turns w w' (Hp.Own.both (own k N 0) (Hp.Own.row 3 1 (.slice A n c) n xs)) (own k' M 0) := by
  subst hM
  obtain ⟨rfl, hx⟩ := hk
  refine (keep_any k N A n c xs w h hg (by omega) (by omega)).mono ?_
  rintro e w' ⟨rfl, ov, wv, y, ht⟩
  refine ⟨rfl, k.add N ov wv (.slice A n c) y n xs, ⟨rfl, fun i hi => ?_⟩, ht⟩
  show Gd (if i = N then xs else k.xs i) ∧ (if i = N then n else k.len i) ≤ B
  by_cases h : i = N
  · rw [if_pos h, if_pos h]; exact ⟨hg, hn⟩
  · rw [if_neg h, if_neg h]; exact hx i (by omega)
theorem spoil_at (k : KS) (g N B : Nat) (w : World) (hk : Kn k g N B) (h : (own k N 0).holds w) (hB : B ≤ 8796093022000) (hN : N ≤ 1099511627776) :
    Calls Try.prog 27 #[.pointer (some ⟨g, 0, none⟩)] w fun e w' => e = .returned (.bool true) ∧ Chg (own k N 0).foot w w' := by
  obtain ⟨rfl, hx⟩ := hk
  exact spoil_any k N w h (fun i hi => ⟨(hx i hi).1, Nat.le_trans (hx i hi).2 hB⟩) hN
end Go.Proofs.Ytgoimoaeeiobnaa.Ga.Kc
namespace Go.Proofs.Ytgoimoaeeiobnaa.Ga
open Go.RowKit Go.Hp Go.Fl
set_option linter.unusedSimpArgs false
set_option linter.unusedVariables false
set_option maxRecDepth 100000
inductive J where
  | a | b | h | v | x
deriving DecidableEq
def jf (A B H V X : Hp.Own) : J → Hp.Own
  | .a => A | .b => B | .h => H | .v => V | .x => X
def jo (A B H V X : Hp.Own) : Hp.Own := Own.fam (jf A B H V X)
theorem jo_emp {w w' : World} (hc : Chg (fun _ => False) w w') : Turns w w' Hp.Own.emp (jo Hp.Own.emp Hp.Own.emp Hp.Own.emp Hp.Own.emp Hp.Own.emp) :=
  ⟨hc, ⟨fun i => by cases i <;> trivial, fun i j b hi hj => by cases i <;> exact (hi : False).elim⟩, fun b hb => by obtain ⟨i, hi⟩ := hb; cases i <;> exact (hi : False).elim⟩
variable {w W W' : World} {O A B H V X O' : Hp.Own}
theorem jo_a (h : Turns w W O (jo A B H V X)) (t : Turns W W' A O') : Turns w W' O (jo O' B H V X) :=
  (h.trans (Turns.famE h.now .a rfl t)).to (Own.fam_as fun i => by cases i <;> rfl)
theorem jo_b (h : Turns w W O (jo A B H V X)) (t : Turns W W' B O') : Turns w W' O (jo A O' H V X) :=
  (h.trans (Turns.famE h.now .b rfl t)).to (Own.fam_as fun i => by cases i <;> rfl)
theorem jo_h (h : Turns w W O (jo A B H V X)) (t : Turns W W' H O') : Turns w W' O (jo A B O' V X) :=
  (h.trans (Turns.famE h.now .h rfl t)).to (Own.fam_as fun i => by cases i <;> rfl)
theorem jo_v (h : Turns w W O (jo A B H V X)) (t : Turns W W' V O') : Turns w W' O (jo A B H O' X) :=
  (h.trans (Turns.famE h.now .v rfl t)).to (Own.fam_as fun i => by cases i <;> rfl)
theorem jo_x (h : Turns w W O (jo A B H V X)) (t : Turns W W' X O') : Turns w W' O (jo A B H V O') :=
  (h.trans (Turns.famE h.now .x rfl t)).to (Own.fam_as fun i => by cases i <;> rfl)
theorem jo_hx (h : Turns w W O (jo A B H V X)) (t : Turns W W' (Hp.Own.both H X) O') : Turns w W' O (jo A B O' V Hp.Own.emp) :=
  (h.trans (Turns.fam2 h.now (i := J.h) (j := J.x) (by simp) rfl rfl t)).to (Own.fam_as fun i => by cases i <;> rfl)
theorem jo_both (h : Turns w W O (jo A B H V X)) : (Hp.Own.both H X).holds W := Own.fam_both (i := J.h) (j := J.x) h.now (by simp) rfl rfl
theorem jo_A (h : Turns w W O (jo A B H V X)) : A.holds W := h.now.1 .a
theorem jo_B (h : Turns w W O (jo A B H V X)) : B.holds W := h.now.1 .b
theorem jo_H (h : Turns w W O (jo A B H V X)) : H.holds W := h.now.1 .h
theorem jo_V (h : Turns w W O (jo A B H V X)) : V.holds W := h.now.1 .v
theorem jo_X (h : Turns w W O (jo A B H V X)) : X.holds W := h.now.1 .x
theorem jo_new (h : Turns w W Hp.Own.emp (jo A B H V X)) (hc : Chg H.foot W W') : Chg (fun _ => False) w W' :=
  (h.trans (Turns.mk (O' := Hp.Own.emp) (hc.mono fun k _ hf => ⟨J.h, hf⟩) trivial (fun _ hb => hb.elim))).chg
/-- A row of numbers. -/
def ro (X : Option Addr) (n c : Nat) (zs : List Int) : Hp.Own := Hp.Own.row 3 1 (.slice X n c) n (iv zs)
def BarsOwn (l es : List Int) (w : World) (e : Ending) (w' : World) : Prop := ∃ X cx, e = .returned (.tuple #[.slice X (barsZ l es).length cx, .int .i64 (barsE l es)]) ∧ Turns w w' Hp.Own.emp (ro X (barsZ l es).length cx (barsZ l es))
theorem bars_own (A B : Option Addr) (n m c d : Nat) (l es : List Int) (w : World) (hs : Sl w B es) (hsl : Sl w A l) (hl : es.length = m) (hll : l.length = n) :
    Calls Try.prog 24 #[.slice A n c, .slice B m d] w (BarsOwn l es w) := by
  by_cases h1 : 4096 < l.length ∨ 4096 < es.length
  · refine (bars_many A B n m c d w (by omega)).mono ?_
    rintro e w' ⟨rfl, rfl⟩
    unfold BarsOwn barsZ barsE
    rw [if_pos h1, if_pos h1]
    exact ⟨none, 0, rfl, ⟨Chg.refl _ _, World.ownsRow_nil _ _ _ _, fun b hb => by cases hb⟩⟩
  · by_cases h2 : Inc es
    · refine (bars_ok A B n m c d l es w (by omega) (by omega) hs hsl hl hll h2).mono ?_
      rintro e w' ⟨cc, rfl, ht⟩
      unfold BarsOwn barsZ barsE
      rw [if_neg h1, if_neg h1, if_pos h2, if_pos h2]
      have hbl : (barsOf l es).length = es.length + 1 := by unfold barsOf; simp
      rw [hbl]
      exact ⟨some ⟨w.heap.size, 0, none⟩, cc, rfl, ht⟩
    · refine (bars_arg A B n m c d es w (by omega) (by omega) hs hl h2).mono ?_
      rintro e w' ⟨rfl, hc⟩
      unfold BarsOwn barsZ barsE
      rw [if_neg h1, if_neg h1, if_neg h2, if_neg h2]
      exact ⟨none, 0, rfl, ⟨hc, World.ownsRow_nil _ _ _ _, fun b hb => by cases hb⟩⟩
theorem rbars_own (A B : Option Addr) (n m c d : Nat) (l es : List Int) (w : World) (hs : Sl w B es) (hsl : Sl w A l) (hl : es.length = m) (hll : l.length = n) :
    Calls Try.prog 23 #[.slice A n c, .slice B m d] w (BarsOwn l es w) := by
  by_cases h1 : 4096 < l.length ∨ 4096 < es.length
  · refine (rbars_many A B n m c d w (by omega)).mono ?_
    rintro e w' ⟨rfl, rfl⟩
    unfold BarsOwn barsZ barsE
    rw [if_pos h1, if_pos h1]
    exact ⟨none, 0, rfl, ⟨Chg.refl _ _, World.ownsRow_nil _ _ _ _, fun b hb => by cases hb⟩⟩
  · by_cases h2 : Inc es
    · refine (rbars_ok A B n m c d l es w (by omega) (by omega) hs hsl hl hll h2).mono ?_
      rintro e w' ⟨X, cc, rfl, ht⟩
      unfold BarsOwn barsZ barsE
      rw [if_neg h1, if_neg h1, if_pos h2, if_pos h2]
      have hbl : (barsOf l es).length = es.length + 1 := by unfold barsOf; simp
      rw [hbl, hl]
      exact ⟨X, cc, rfl, ht⟩
    · refine (rbars_arg A B n m c d es w (by omega) (by omega) hs hl h2).mono ?_
      rintro e w' ⟨rfl, hc⟩
      unfold BarsOwn barsZ barsE
      rw [if_neg h1, if_neg h1, if_neg h2, if_neg h2]
      exact ⟨none, 0, rfl, ⟨hc, World.ownsRow_nil _ _ _ _, fun b hb => by cases hb⟩⟩
theorem ro_src {w : World} {X : Option Addr} {n c : Nat} {zs : List Int} (h : (ro X n c zs).holds w) : Src w (.slice X n c) n 1 (iv zs) := Src.of_own (show w.ownsRow 0 3 1 (.slice X n c) n (iv zs) from h)
theorem ro_sl {w : World} {X : Option Addr} {n c : Nat} {zs : List Int} (h : (ro X n c zs).holds w) : Sl w X zs := Sl.of_row (zs := zs) h
theorem same_ro (A B : Option Addr) (n c d : Nat) (zs : List Int) (w : World) (hs : (ro A n c zs).holds w) (ht : (ro B n d zs).holds w) (hn : n ≤ 17592186044416) :
    Calls Try.prog 25 #[.slice A n c, .slice B n d] w fun e w' => e = .returned (.bool true) ∧ Chg (fun _ => False) w w' := by
  refine (Kc.same_src A B n c d (iv zs) w (ro_src hs) (ro_src ht) ⟨zs, rfl⟩ hn).mono ?_
  rintro e w' ⟨rfl, q, rfl⟩
  exact ⟨rfl, (Chg.refl _ _).drewN q⟩
end Go.Proofs.Ytgoimoaeeiobnaa.Ga
