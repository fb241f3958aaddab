/- The gauge: what is shown. -/
import Derived.Test.YtgoimoaeeiobnaaGaSh
namespace Go.Proofs.Ytgoimoaeeiobnaa.Ga
open Go.RowKit Go.Hp Go.Fl
set_option linter.unusedSimpArgs false
set_option linter.unusedVariables false
set_option maxRecDepth 100000
attribute [local go_sem] run_store_float
theorem Sl.new (w : World) (zs : List Int) (T : TypeId) : Sl (w.alloc (.cells (zs.map (Value.int .i64)).toArray T)) (some ⟨w.heap.size, 0, none⟩) zs := by
  refine Or.inr ⟨w.heap.size, 0, rfl, by simp, fun j hj => ?_⟩
  rw [Nat.zero_add, (Blk.new w _ T).cell]
  simp [hj]
theorem Sl.lit {w : World} {b0 : Nat} {zs : List Int} {cs : Array Value} {T : TypeId} (hb : b0 = w.heap.size) (h : cs = (zs.map (Value.int .i64)).toArray) : Sl (w.alloc (.cells cs T)) (some ⟨b0, 0, none⟩) zs := by subst h; subst hb; exact Sl.new w zs T
theorem Sl.alloc {w : World} {A : Option Addr} {zs : List Int} (h : Sl w A zs) (o : Obj) : Sl (w.alloc o) A zs := h.keep ((Chg.refl _ _).alloc _)
def SamePost (zs ys : List Int) (w : World) (e : Ending) (w' : World) : Prop := e = .returned (.bool (decide (zs = ys))) ∧ ∃ q, w.drewN q = w'
theorem same_len (A B : Option Addr) (n m c d : Nat) (zs ys : List Int) (w : World) (h1 : zs.length = n) (h2 : ys.length = m) (hne : n ≠ m) :
    Calls Try.prog 25 #[.slice A n c, .slice B m d] w (SamePost zs ys w) := by
  have h3 : decide (zs = ys) = false := by simp; intro h; subst h; omega
  have hd : ¬ (n : Int) = (m : Int) := by omega
  have H3 := Lib.hid h3
  clear h1 h2 h3
  go_enter Try.func25, Try.ntmps25
  go_wp2
  go_ret
  unfold SamePost
  rw [H3.out]
  exact ⟨rfl, 0, rfl⟩
theorem same_eq (A B : Option Addr) (n c d : Nat) (zs ys : List Int) (w : World) (hs : Sl w A zs) (ht : Sl w B ys) (h1 : zs.length = n) (h2 : ys.length = n) (hn : n ≤ 5000) :
    Calls Try.prog 25 #[.slice A n c, .slice B n d] w (SamePost zs ys w) := by
  have HS := Lib.hid hs
  have HT := Lib.hid ht
  have H1 := Lib.hid h1
  have H2 := Lib.hid h2
  clear hs ht h1 h2
  go_enter Try.func25, Try.ntmps25
  go_wp2
  go_loopw [5] (fun x5 wr => ∃ i : Nat, x5 = .int .i64 i ∧ i ≤ n ∧ (∀ j (h1 : j < zs.length) (h2 : j < ys.length), j < i → zs[j] = ys[j]) ∧ ∃ q, w.drewN q = wr) (fun x5 _ => n - (intOf x5).toNat)
  case atStart => exact ⟨0, rfl, Nat.zero_le _, fun j h1 h2 h => absurd h (by omega), 0, rfl⟩
  case round =>
    obtain ⟨i, rfl, hin, hno, q, rfl⟩ := hrel
    have HNO := Lib.hid hno
    clear hno
    by_cases hlt : i < n
    · have hd : decide ((i : Int) < (n : Int)) = true := by simp; omega
      have hd' : decide (i < n) = true := by simp; omega
      have hiz : i < zs.length := by rw [H1.out]; exact hlt
      have hiy : i < ys.length := by rw [H2.out]; exact hlt
      obtain ⟨b, off, rfl, hb, hc⟩ := HS.out.cells (fun h => by subst h; simp at hiz)
      obtain ⟨b', off', rfl, hb', hc'⟩ := HT.out.cells (fun h => by subst h; simp at hiy)
      have c0 : w.cell? ⟨b, off + i, none⟩ = some (.int .i64 (zs.getD i 0)) := hc i hiz
      have c1 : w.cell? ⟨b', off' + i, none⟩ = some (.int .i64 (ys.getD i 0)) := hc' i hiy
      have c0' : (w.drewN q).cell? ⟨b, off + i, none⟩ = some (.int .i64 (zs.getD i 0)) := hc i hiz
      have c1' : (w.drewN q).cell? ⟨b', off' + i, none⟩ = some (.int .i64 (ys.getD i 0)) := hc' i hiy
      obtain ⟨x, hx⟩ : ∃ x, zs.getD i 0 = x := ⟨_, rfl⟩
      obtain ⟨y, hy⟩ : ∃ y, ys.getD i 0 = y := ⟨_, rfl⟩
      rw [hx] at c0 c0'
      rw [hy] at c1 c1'
      have hxg : zs[i] = x := by rw [← hx]; simp [List.getD, hiz]
      have hyg : ys[i] = y := by rw [← hy]; simp [List.getD, hiy]
      have HX := Lib.hid hxg
      have HY := Lib.hid hyg
      clear hx hy hxg hyg hc hc'
      by_cases hxy : x = y
      · subst hxy
        have q1 : decide (x = x) = true := by simp
        go_wp2_with fail
        go_quiet (fail)
        go_wp2_with fail
        go_roundw
        case rel =>
          refine ⟨i + 1, by simp, by omega, fun j h1 h2 h => ?_, _, rfl⟩
          rcases Nat.lt_or_ge j i with h3 | h3
          · exact HNO.out j h1 h2 h3
          · obtain rfl : j = i := by omega
            rw [HX.out, HY.out]
        case measure => simp [intOf]; omega
      · have q1 : decide (x = y) = false := by simpa using hxy
        go_wp2_with fail
        go_quiet (fail)
        go_wp2_with fail
        go_ret
        have h3 : decide (zs = ys) = false := by
          simp
          intro h
          subst h
          exact hxy (HX.out.symm.trans HY.out)
        unfold SamePost
        rw [h3]
        exact ⟨rfl, _, (World.drewN_drewN ..).symm⟩
    · have hd : decide ((i : Int) < (n : Int)) = false := by simp; omega
      have hd' : decide (i < n) = false := by simp; omega
      go_wp2_with fail
      go_ret
      have h3 : decide (zs = ys) = true := by
        simp
        refine List.ext_getElem (by rw [H1.out, H2.out]) fun j h1 h2 => HNO.out j h1 h2 (by have := H1.out; omega)
      unfold SamePost
      rw [h3]
      exact ⟨rfl, q, rfl⟩
theorem same_any (A B : Option Addr) (n m c d : Nat) (zs ys : List Int) (w : World) (hs : Sl w A zs) (ht : Sl w B ys) (h1 : zs.length = n) (h2 : ys.length = m) (hn : n ≤ 5000) :
    Calls Try.prog 25 #[.slice A n c, .slice B m d] w (SamePost zs ys w) := by
  by_cases h : n = m
  · subst h; exact same_eq A B n c d zs ys w hs ht h1 h2 hn
  · exact same_len A B n m c d zs ys w h1 h2 h
theorem mean8 : mF [2, 4, 4, 4, 5, 5, 7, 9] = 4617315517961601024 := by decide +kernel
theorem dev8 : devF [2, 4, 4, 4, 5, 5, 7, 9] = 4611686018427387904 := by decide +kernel
theorem of8 (b : Nat) (w : World) (hs : Sl w (some ⟨b, 0, none⟩) [2, 4, 4, 4, 5, 5, 7, 9]) :
    Calls Try.prog 15 #[.slice (some ⟨b, 0, none⟩) 8 8] w fun e w' => e = .returned (.tuple #[.agg #[.int .i64 8, .int .i64 2, .int .i64 9, .float .f64 4617315517961601024, .float .f64 4611686018427387904], .int .i64 0]) ∧ Chg (fun _ => False) w w' := by
  refine (of_ok b 0 8 8 [2, 4, 4, 4, 5, 5, 7, 9] w hs (fun x hx => by simp at hx; omega) rfl (by omega) (by omega)).mono ?_
  rintro e w' ⟨rfl, hc⟩
  rw [mean8, dev8]
  exact ⟨rfl, hc⟩
theorem srt4 : srt [5, 1, 9, 3] = [1, 3, 5, 9] := by
  unfold srt
  simp [List.mergeSort, List.MergeSort.Internal.splitInTwo, List.merge]
theorem share4 (b : Nat) (w : World) (hs : Sl w (some ⟨b, 0, none⟩) [5, 1, 9, 3]) :
    Calls Try.prog 21 #[.slice (some ⟨b, 0, none⟩) 4 4, .float .f64 4602678819172646912] w fun e w' => e = .returned (.tuple #[.int .i64 3, .int .i64 0]) ∧ Chg (fun _ => False) w w' := by
  refine (share_ok b 0 4 4 [5, 1, 9, 3] 4602678819172646912 w hs rfl (by omega) (by omega) (by decide +kernel)).mono ?_
  rintro e w' ⟨rfl, hc⟩
  have h : shareOf [5, 1, 9, 3] 4602678819172646912 = 3 := by
    unfold shareOf
    rw [srt4]
    decide +kernel
  rw [h]
  exact ⟨rfl, hc⟩
theorem bars4 (b b2 : Nat) (w : World) (hs : Sl w (some ⟨b, 0, none⟩) [1, 5, 5, 9]) (hs2 : Sl w (some ⟨b2, 0, none⟩) [5, 8]) :
    Calls Try.prog 24 #[.slice (some ⟨b, 0, none⟩) 4 4, .slice (some ⟨b2, 0, none⟩) 2 2] w fun e w' => ∃ g c, e = .returned (.tuple #[.slice (some ⟨g, 0, none⟩) 3 c, .int .i64 0]) ∧ Chg (fun _ => False) w w' ∧ Sl w' (some ⟨g, 0, none⟩) [1, 2, 1] := by
  refine (bars_ok (some ⟨b, 0, none⟩) (some ⟨b2, 0, none⟩) 4 2 4 2 [1, 5, 5, 9] [5, 8] w (by omega) (by omega) hs2 hs rfl rfl (by decide)).mono ?_
  rintro e w' ⟨c, rfl, ht⟩
  have h : barsOf [1, 5, 5, 9] [5, 8] = [1, 2, 1] := by decide
  rw [h] at ht
  exact ⟨_, c, rfl, ht.chg, Sl.of_row ht.now⟩
theorem same3 (b b2 c d : Nat) (w : World) (hs : Sl w (some ⟨b, 0, none⟩) [1, 2, 1]) (ht : Sl w (some ⟨b2, 0, none⟩) [1, 2, 1]) :
    Calls Try.prog 25 #[.slice (some ⟨b, 0, none⟩) 3 c, .slice (some ⟨b2, 0, none⟩) 3 d] w fun e w' => e = .returned (.bool true) ∧ ∃ q, w.drewN q = w' := by
  refine (same_any _ _ 3 3 c d [1, 2, 1] [1, 2, 1] w hs ht rfl rfl (by omega)).mono ?_
  rintro e w' ⟨rfl, q, rfl⟩
  exact ⟨by simp, q, rfl⟩
theorem shown_any (w : World) : Calls Try.prog 13 #[] w fun e w' => e = .returned (.bool true) ∧ Chg (fun _ => False) w w' := by
  go_enter Try.func13, Try.ntmps13
  go_wp2_with (first
    | (go_at_call 15; (with_reducible refine (of8 _ _ ?_).mono ?_); exact Sl.lit (by simp) rfl; rintro r w1 ⟨rfl, hc1⟩; have HC1 := Lib.hid (((Chg.refl _ w).alloc _).trans hc1); clear hc1)
    | (go_at_call 21; (with_reducible refine (share4 _ _ ?_).mono ?_); exact Sl.lit (by simp) rfl; rintro r w2 ⟨rfl, hc2⟩; have HC2 := Lib.hid hc2; clear hc2)
    | (go_at_call 24; (with_reducible refine (bars4 _ _ _ ?_ ?_).mono ?_); exact Sl.alloc (Sl.lit (by simp) rfl) _; exact Sl.lit (by simp) rfl; rintro r w3 ⟨g, c, rfl, hc3, hs3⟩; have HC3 := Lib.hid hc3; have HS3 := Lib.hid hs3; clear hc3 hs3)
    | (go_at_call 25; (with_reducible refine (same3 _ _ _ _ _ ?_ ?_).mono ?_); exact HS3.out.alloc _; exact Sl.lit (by simp) rfl; rintro r w4 ⟨rfl, q4, rfl⟩))
  go_ret
  exact ⟨rfl, ((((((((HC1.out.alloc _).alloc _).trans HC2.out).alloc _).alloc _).trans HC3.out).alloc _).drewN _)⟩
end Go.Proofs.Ytgoimoaeeiobnaa.Ga
