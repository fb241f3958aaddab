/- The gauge's law: GaugeShare. -/
import Derived.Test.YtgoimoaeeiobnaaGaRs
import Derived.Test.YtgoimoaeeiobnaaGaL3
namespace Go.Proofs.Ytgoimoaeeiobnaa.Ga
open Go.RowKit Go.Hp Go.Fl
set_option linter.unusedSimpArgs false
set_option linter.unusedVariables false
set_option maxRecDepth 100000
attribute [local go_sem] run_store_float
theorem share_all4 (A : Option Addr) (n c p : Nat) (l : List Int) (w : World) (hs : Sl w A l) (hi : I64 l) (hl : l.length = n) (hn : (n + 8) * 8 ≤ 140737488355328) :
    Calls Try.prog 4 #[.slice A n c, .float .f64 p] w (TruePost w) := by
  have HLE := Lib.hid (fun W h => lent_any A n c l W h hl hn)
  have HO1 := Lib.hid (fun A' c' W h => share_all A' n c' l p W h hl)
  have HR1 := Lib.hid (fun W h => rshare_all A n c l p W h hl)
  have HST := Lib.hid (fun A' c' W h1 h2 => still_yes A' A n c' c l W h1 h2 hl (by omega))
  have HTU := Lib.hid (fun g cx W h => turned_any g n cx (n + 8) cx l (rep 8 (-77)) W h hl (by omega))
  have HOX := Lib.hid (fun A' c' xs (h1 : xs.length = n) W h => share_all A' n c' xs p W h h1)
  have HRX := Lib.hid (fun A' c' xs (h1 : xs.length = n) W h => rshare_all A' n c' xs p W h h1)
  have HCO := Lib.hid (fun A' c' xs (h1 : xs.length = n) W h => copied_any A' n c' xs W h h1 (by omega))
  generalize shareZ l p = x1 at *
  generalize shareE l p = e1 at *
  have HS := Lib.hid hs
  have hn' : n ≤ n + 8 := by omega
  have hw8 : n ≤ 17592186044408 := by omega
  clear hs hi hl hn
  go_enter Try.func4, Try.ntmps4
  go_wp2_with (first
    | (go_at_call 13; (with_reducible refine (shown_any _).mono ?_); rintro r w1 ⟨rfl, hc1⟩; have HC1 := Lib.hid hc1; clear hc1; have HS1 := Lib.hid (HS.out.keep HC1.out))
    | (go_at_call 14; (with_reducible refine (HLE.out _ HS1.out).mono ?_); rintro r w2 ⟨g, cx, rfl, hcx, ht2⟩; have HT2 := Lib.hid ((Turns.of_kept (O := Own.emp) trivial HC1.out).trans ht2); clear ht2; have HA2 := Lib.hid (Sl.pre HT2.out.now); have HCX := Lib.hid hcx; have hcx2 : n ≤ cx := (by omega))
    | (go_at_call 21; (with_reducible refine (HO1.out _ _ _ HA2.out).mono ?_); rintro r w3 ⟨rfl, hc3⟩; have HT3 := Lib.hid (HT2.out.kept hc3); clear hc3; have HS3 := Lib.hid (HS.out.keep HT3.out.chg))
    | (go_at_call 22; (with_reducible refine (HR1.out _ HS3.out).mono ?_); rintro r w4 ⟨rfl, hc4⟩; have HT4 := Lib.hid (HT3.out.kept hc4); clear hc4; have HA4 := Lib.hid (Sl.full HT4.out.now); have HS4 := Lib.hid (HS.out.keep HT4.out.chg))
    | (go_at_call 18; (with_reducible refine (HST.out _ _ _ HA4.out HS4.out).mono ?_); rintro r w5 ⟨rfl, q5, hq5⟩; have hc5 : Chg (fun _ => False) w4 w5 := (by rw [← hq5]; exact (Chg.refl _ _).drewN _); clear hq5; have HT5 := Lib.hid (HT4.out.kept hc5); clear hc5)
    | (go_at_call 19; (with_reducible refine (HTU.out _ _ _ HT5.out.now).mono ?_); rintro r w6 ⟨rfl, xs, hx1, hx2, ht6⟩; have HT6 := Lib.hid (HT5.out.trans ht6); clear ht6; have HX1 := Lib.hid hx1; clear hx1 hx2; have HA6 := Lib.hid (Sl.pre HT6.out.now); have HO3 := Lib.hid (fun W h => HOX.out (some ⟨g, 0, none⟩) cx xs HX1.out W h); have HR3 := Lib.hid (fun A' c' W h => HRX.out A' c' xs HX1.out W h); generalize shareZ xs p = x3 at *; generalize shareE xs p = e3 at *)
    | (go_at_call 21; (with_reducible refine (HO3.out _ HA6.out).mono ?_); rintro r w7 ⟨rfl, hc7⟩; have HT7 := Lib.hid (HT6.out.kept hc7); clear hc7; have HA7 := Lib.hid (Sl.pre HT7.out.now))
    | (go_at_call 20; (with_reducible refine (HCO.out (some ⟨g, 0, none⟩) cx xs HX1.out _ HA7.out).mono ?_); rintro r w8 ⟨X, cx', rfl, ht8⟩; have HT8 := Lib.hid ht8; clear ht8; have HC8 := Lib.hid (HT7.out.chg.trans HT8.out.chg); have HX8 := Lib.hid (Sl.of_row (zs := xs) HT8.out.now))
    | (go_at_call 22; (with_reducible refine (HR3.out _ _ _ HX8.out).mono ?_); rintro r w9 ⟨rfl, hc9⟩; have HC9 := Lib.hid (HC8.out.trans hc9); clear hc9))
  go_ret
  exact ⟨rfl, HC9.out⟩
theorem share_law (v0 : Value) (p : Nat) (w : World) (h0 : ArgOk Try.prog w 22 v0) :
    Calls Try.prog 4 #[v0, .float .f64 p] w fun e w' => e = .returned (.bool true) ∧ Below w.heap.size w w' := by
  obtain ⟨A, l, c, rfl, hw, hs⟩ := ints_sl h0
  refine (share_all4 A _ c p l w hs (fun x hx => wf_i64 (hw x hx)) rfl (ints_len8 h0)).mono ?_
  rintro e w' ⟨he, hc⟩
  exact ⟨he, hc.below (fun k h => h.elim) (Nat.le_refl _)⟩
end Go.Proofs.Ytgoimoaeeiobnaa.Ga
