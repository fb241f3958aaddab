/- The law's tables of ints beside the document's: among, law03.numbers; the desk's things. -/
import Derived.Test.YtmpkjfengfgagaaTmGI
import Derived.Test.YtmpkjfengfgagaaTmFI
namespace Go.Proofs.Ytmpkjfengfgagaa.Ti
open Go.RowKit Go.Hp
attribute [local go_sem] min2_lean min_two max2_lean max_two
set_option linter.unusedSimpArgs false
set_option linter.unusedVariables false
set_option maxRecDepth 100000
open Tf
/-- What one of a family gives out stands beside the family. -/
theorem fam_out {ι : Type} [DecidableEq ι] {F : ι → Hp.Own} {w w' : World} {O A O' : Hp.Own} (h : (Hp.Own.fam F).holds w) (i : ι) (hi : F i = O) (t : Turns w w' O (Hp.Own.both A O')) : Turns w w' (Hp.Own.fam F) (Hp.Own.both A (Hp.Own.fam (upd F i O'))) := by
  have t1 := Turns.famE h i hi t
  have hn := t1.now
  have e1 : upd F i (Hp.Own.both A O') i = Hp.Own.both A O' := by simp [upd]
  have hi0 := hn.1 i
  rw [e1] at hi0
  have ho : ∀ j, j ≠ i → upd F i O' j = upd F i (Hp.Own.both A O') j := fun j hj => by simp [upd, hj]
  have hio : upd F i O' i = O' := by simp [upd]
  have inj : ∀ j b, (upd F i O' j).foot b → (upd F i (Hp.Own.both A O') j).foot b := fun j b hb => by
    by_cases e : j = i
    · subst e
      rw [hio] at hb
      rw [e1]
      exact Or.inr hb
    · rwa [← ho j e]
  refine ⟨t1.chg, ⟨hi0.1, ⟨fun j => ?_, fun j k b hj hk => hn.2 j k b (inj j b hj) (inj k b hk)⟩, fun b ha hb => ?_⟩, fun b hb => t1.near b ?_⟩
  · by_cases e : j = i
    · subst e
      rw [hio]
      exact hi0.2.1
    · rw [ho j e]
      exact hn.1 j
  · obtain ⟨j, hj⟩ := hb
    by_cases e : j = i
    · subst e
      rw [hio] at hj
      exact hi0.2.2 b ha hj
    · exact e (hn.2 j i b (inj j b hj) (by rw [e1]; exact Or.inl ha))
  · rcases hb with hb | ⟨j, hj⟩
    · exact ⟨i, by rw [e1]; exact Or.inl hb⟩
    · exact ⟨j, inj j b hj⟩
theorem chg_at {w wr : World} (h : Chg (fun _ => False) w wr) {p : Addr} {v : Value} (hp : w.cell? p = some v) : wr.cell? p = some v := (h.cell (p := p) (World.block_lt_of_cell? _ _ hp) (fun h => h)).trans hp
/-- A place among n. -/
def am (i n : Int) : Int := if i.tmod n < 0 then i.tmod n + n else i.tmod n
theorem am_bd (i n : Int) (h : 1 ≤ n) : 0 ≤ am i n ∧ am i n < n := by
  have h1 := Int.tmod_lt_of_pos i (b := n) (by omega)
  have h2 := Int.lt_tmod_of_pos i (b := n) (by omega)
  unfold am
  split <;> omega
theorem among_any (i : Int) (n : Nat) (w : World) (h : 1 ≤ n) (h4 : n ≤ 1048576) : Calls Try.prog 53 #[.int .i64 i, .int .i64 n] w fun e w' => ∃ j : Nat, j < n ∧ e = .returned (.int .i64 j) ∧ w' = w := by
  have hb := am_bd i n (by omega)
  have h1 := Int.tmod_lt_of_pos i (b := (n : Int)) (by omega)
  have h2 := Int.lt_tmod_of_pos i (b := (n : Int)) (by omega)
  refine Calls.mono (R := fun e w' => e = .returned (.int .i64 (am i n)) ∧ w' = w) ?_ (fun e w' ⟨he, hw⟩ => ⟨(am i n).toNat, by omega, by rw [he, Int.toNat_of_nonneg hb.1], hw⟩)
  have hn : ((n : Int) == 0) = false := by simp; omega
  have hn1 : decide ((n : Int) < 1) = false := by simp; omega
  have hb1 : (1 : Int) ≤ (n : Int) := by omega
  have hb2 : (n : Int) ≤ 1048576 := by omega
  clear hb
  by_cases hneg : i.tmod n < 0
  · have hd : decide (i.tmod n < 0) = true := by simpa using hneg
    have HA := Lib.hid (show am i n = i.tmod n + n by unfold am; rw [if_pos hneg])
    generalize (n : Int) = N at *
    go_enter Try.func53, Try.ntmps53
    go_wp2_with fail
    go_ret
    rw [HA.out]
    exact ⟨rfl, rfl⟩
  · have hd : decide (i.tmod n < 0) = false := by simpa using hneg
    have HA := Lib.hid (show am i n = i.tmod n by unfold am; rw [if_neg hneg])
    generalize (n : Int) = N at *
    go_enter Try.func53, Try.ntmps53
    go_wp2_with fail
    go_ret
    rw [HA.out]
    exact ⟨rfl, rfl⟩
theorem among_lit (i : Int) (n : Nat) (N : Int) (hN : N = (n : Int)) (w : World) (h : 1 ≤ n) (h4 : n ≤ 1048576) : Calls Try.prog 53 #[.int .i64 i, .int .i64 N] w fun e w' => ∃ j : Nat, j < n ∧ e = .returned (.int .i64 j) ∧ w' = w := by
  subst hN
  exact among_any i n w h h4
set_option maxHeartbeats 1000000 in
/-- A list of names that is the document's. -/
theorem agree_any (A : Option Addr) (n c : Nat) (B : Option Addr) (d : Nat) (ks : List Nm) (w : World) (h1 : Src w (.slice A n c) n 1 ((ks.map une).map (Value.int .i64))) (h2 : (Hp.Own.row 171 2 (.slice B ks.length d) ks.length (kcs ks).flatten).holds w) (hn : n ≤ 1000000) :
    Calls Try.prog 106 #[.slice A n c, .slice B ks.length d] w fun e w' => e = .returned (.bool true) ∧ Chg (fun _ => False) w w' := by
  have hl : ks.length = n := by have := h1.1; simpa using this
  replace h2 : w.ownsRow 0 171 2 (.slice B ks.length d) ks.length (kcs ks).flatten := h2
  rw [hl] at h2 ⊢
  have H1 := Lib.hid h1
  have H2 := Lib.hid h2
  have HL := Lib.hid hl
  clear h1 h2 hl
  go_enter Try.func106, Try.ntmps106
  go_wp2_with fail
  go_loopw [13] (fun x13 wr => ∃ i : Nat, x13 = .int .i64 i ∧ i ≤ n ∧ Chg (fun _ => False) w wr) (fun x13 _ => n - (intOf x13).toNat)
  case atStart => exact ⟨0, rfl, Nat.zero_le _, Chg.refl _ _⟩
  case round =>
    obtain ⟨i, rfl, hi, hch⟩ := hrel
    by_cases hlt : i < n
    · have hd : decide ((i : Int) < (n : Int)) = true := by simp; omega
      have hd' : decide (i < n) = true := by simp; omega
      obtain ⟨x, hx⟩ : ∃ x, ks[i]? = some x := ⟨_, List.getElem?_eq_getElem (by have := HL.out; omega)⟩
      obtain ⟨ad, rfl, hxl, p0⟩ := Src.get H1.out i hlt
      have hxe : ((ks.map une).map (Value.int .i64))[i]? = some ((Value.int .i64) (une x)) := by rw [List.getElem?_map, List.getElem?_map, hx]; rfl
      rw [List.getElem?_eq_getElem hxl] at hxe
      rw [Option.some.inj hxe] at p0
      obtain ⟨bg, cg, e, hbg, _⟩ := row_form H2.out (by omega)
      obtain ⟨rfl, _, rfl⟩ := Value.slice.inj e
      have hkx : (kcs ks)[i]? = some (kc x) := by rw [kcs, List.getElem?_map, hx]; rfl
      have q0 : w.cell? ⟨bg, i * 2 + 1, none⟩ = some ((Value.int .i64) (une x)) := (row_cell H2.out _ (fl_get (j := 1) (kcs_wd ks) hkx rfl)).1
      replace p0 := chg_at hch p0
      replace q0 := chg_at hch q0
      generalize une x = u at *
      clear hx hxe hkx e hxl
      have hne : (u == u) = true := by simp
      have hne2 : (u != u) = false := by simp
      go_wp2_with fail
      go_quiet (fail)
      go_wp2_with fail
      go_roundw
      case rel => exact ⟨i + 1, by simp, by omega, hch.drewN _⟩
      case measure => simp [intOf]; omega
    · have hd : decide ((i : Int) < (n : Int)) = false := by simp; omega
      have hd' : decide (i < n) = false := by simp; omega
      go_wp2_with fail
      go_ret
      exact ⟨rfl, hch⟩
end Go.Proofs.Ytmpkjfengfgagaa.Ti
