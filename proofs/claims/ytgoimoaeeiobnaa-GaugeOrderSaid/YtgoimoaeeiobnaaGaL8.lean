/- The gauge's law: GaugeOrder. -/
import Derived.Test.YtgoimoaeeiobnaaGaRo
namespace Go.Proofs.Ytgoimoaeeiobnaa.Ga
open Go.RowKit Go.Hp Go.Fl
set_option linter.unusedSimpArgs false
set_option linter.unusedVariables false
set_option maxRecDepth 100000
attribute [local go_sem] run_store_float
def rv (l : List Int) (k : Nat) : List Value := ((l.drop k).reverse).map (Value.int .i64)
theorem rv_step (l : List Int) (k : Nat) (h : k < l.length) : rv l k = rv l (k + 1) ++ [Value.int .i64 l[k]] := by
  unfold rv
  rw [List.drop_eq_getElem_cons h, List.reverse_cons, List.map_append]
  rfl
theorem rv_end (l : List Int) (k : Nat) (h : l.length = k) : rv l k = [] := by unfold rv; rw [List.drop_of_length_le (by omega)]; rfl
theorem rv_zero (l : List Int) : rv l 0 = l.reverse.map (Value.int .i64) := rfl
theorem order_all0 (A B : Option Addr) (n m c d p : Nat) (l es : List Int) (w : World) (hs : Sl w A l) (ht : Sl w B es) (hi : I64 l) (hl : l.length = n) (hm : es.length = m) (hn : n * 8 ≤ 140737488355328) :
    Calls Try.prog 8 #[.slice A n c, .slice B m d, .float .f64 p] w (TruePost w) := by
  obtain ⟨ij, hij, hzaj, hzbj, hzcj⟩ := info_parts Try.info3
  have hp : l.reverse.Perm l := List.reverse_perm l
  have HB1 := Lib.hid (fun W h h' => bars_all A B n m c d l es W h h' hm hl)
  have HB2 := Lib.hid (fun A' c' W h h' => bars_all A' B n m c' d l.reverse es W h h' hm (by simpa using hl))
  have HP1 := Lib.hid (fun W h => share_all A n c l p W h hl)
  have HP2 := Lib.hid (fun A' c' W h => share_all A' n c' l.reverse p W h (by simpa using hl))
  have HO1 := Lib.hid (fun W h => of_all A n c l W h hi hl)
  have HO2 := Lib.hid (fun A' c' W h => of_all A' n c' l.reverse W h (fun x hx => hi x (by simpa using hx)) (by simpa using hl))
  unfold BarsAll at HB1 HB2
  rw [barsZ_perm hp, barsE_perm hp] at HB2
  rw [shareZ_perm hp, shareE_perm hp] at HP2
  rw [ofMin_perm hp, ofMax_perm hp, ofE_perm hp, ofZ_perm hp, List.length_reverse] at HO2
  have hzl := barsZ_len l es
  generalize barsZ l es = bz at *
  generalize barsE l es = be at *
  generalize shareZ l p = sz at *
  generalize shareE l p = se at *
  generalize ofZ l (Lib.minOf l) = o1 at *
  generalize ofZ l (Lib.maxOf l) = o2 at *
  generalize ofZ l (l.length : Int) = o0 at *
  generalize ofE l = oe at *
  obtain ⟨bn, hbn⟩ : ∃ bn, bz.length = bn := ⟨_, rfl⟩
  rw [hbn] at HB1 HB2 hzl
  have HBN := Lib.hid hbn
  have HS := Lib.hid hs
  have HT := Lib.hid ht
  have HL := Lib.hid hl
  have HZL := Lib.hid hzl
  have HNN := Lib.hid hn
  clear hs ht hi hl hm hp hzl hbn
  go_enter Try.func8, Try.ntmps8
  go_wp2_with (first
    | (go_at_call 13; (with_reducible refine (shown_any _).mono ?_); rintro r w1 ⟨rfl, hc1⟩; have HC1 := Lib.hid hc1; clear hc1))
  have HR0 : Hid (Turns w1 (w1.alloc (.cells #[] 3)) Own.emp (Own.row 3 1 (.slice (some ⟨w1.heap.size, 0, none⟩) 0 0) 0 (rv l n))) := by
    rw [rv_end l n HL.out]
    exact Lib.hid (Turns.row_lit w1 Own.emp #[] 3 1 0 (by simp [maxLen]) rfl)
  go_loopw [7, 8] (fun x7 x8 wr => ∃ (k j : Nat) (Au : Option Addr) (cu : Nat) (z : Int), x8 = .int .i64 z ∧ z = (k : Int) - 1 ∧ j + k = n ∧ x7 = .slice Au j cu ∧ Turns w1 wr Own.emp (Own.row 3 1 (.slice Au j cu) j (rv l k))) (fun _ x8 _ => (intOf x8 + 1).toNat)
  case atStart => exact ⟨n, 0, _, _, _, rfl, rfl, by omega, rfl, HR0.out⟩
  case round =>
    obtain ⟨k, j, Au, cu, z, rfl, hz, hjk, rfl, ht⟩ := hrel
    have HR := Lib.hid ht
    clear ht
    rcases k with _ | k
    · obtain rfl : z = -1 := by omega
      obtain rfl : j = n := by omega
      rw [rv_zero] at HR
      have HK0 : Hid (Sl wr Au l.reverse) := Lib.hid (Sl.of_row HR.out.now)
      have HCr : Hid (Chg (fun _ => False) w wr) := Lib.hid (HC1.out.trans HR.out.chg)
      have HA0 := Lib.hid (HS.out.keep HCr.out)
      have HE0 := Lib.hid (HT.out.keep HCr.out)
      clear hz hjk hn
      go_wp2_with (first
        | (go_at_call 24; (with_reducible refine (HB1.out _ HE0.out HA0.out).mono ?_); rintro r w2 ⟨X1, cx1, rfl, hc2, hx2⟩; have HC2 := Lib.hid hc2; have HX2 := Lib.hid hx2; clear hc2 hx2; have HA2 := Lib.hid (HA0.out.keep HC2.out); have HE2 := Lib.hid (HE0.out.keep HC2.out); have HK2 := Lib.hid (HK0.out.keep HC2.out))
        | (go_at_call 24; (with_reducible refine (HB2.out _ _ _ HE2.out HK2.out).mono ?_); rintro r w3 ⟨X2, cx2, rfl, hc3, hx3⟩; have HC3 := Lib.hid hc3; have HX3 := Lib.hid hx3; clear hc3 hx3; have HA3 := Lib.hid (HA2.out.keep HC3.out); have HK3 := Lib.hid (HK2.out.keep HC3.out); have HX4 := Lib.hid (HX2.out.keep HC3.out))
        | (go_at_call 25; (with_reducible refine (same_any _ _ _ _ _ _ bz bz _ HX4.out HX3.out HBN.out HBN.out HZL.out).mono ?_); rintro r w4 ⟨rfl, q4, hq4⟩; have hdd : decide (bz = bz) = true := (by simp); rw [hdd]; clear hdd; have HC4 : Hid (Chg (fun _ => False) w3 w4) := (by rw [← hq4]; exact Lib.hid ((Chg.refl _ _).drewN _)); clear hq4; have HA4 := Lib.hid (HA3.out.keep HC4.out); have HK4 := Lib.hid (HK3.out.keep HC4.out))
        | (go_at_call 21; (with_reducible refine (HP1.out _ HA4.out).mono ?_); rintro r w5 ⟨rfl, hc5⟩; have HC5 := Lib.hid hc5; clear hc5; have HA5 := Lib.hid (HA4.out.keep HC5.out); have HK5 := Lib.hid (HK4.out.keep HC5.out))
        | (go_at_call 21; (with_reducible refine (HP2.out _ _ _ HK5.out).mono ?_); rintro r w6 ⟨rfl, hc6⟩; have HC6 := Lib.hid hc6; clear hc6; have HA6 := Lib.hid (HA5.out.keep HC6.out); have HK6 := Lib.hid (HK5.out.keep HC6.out))
        | (go_at_call 15; (with_reducible refine (HO1.out _ HA6.out).mono ?_); rintro r w7 ⟨f1, g1, rfl, hc7⟩; have HC7 := Lib.hid hc7; clear hc7; have HK7 := Lib.hid ((HK6.out.keep HC7.out).alloc (.cells #[.int .i64 o0, .int .i64 o1, .int .i64 o2, .float .f64 f1, .float .f64 g1] 27)))
        | (go_at_call 15; (with_reducible refine (HO2.out _ _ _ HK7.out).mono ?_); rintro r w8 ⟨f2, g2, rfl, hc8⟩; have HC8 := Lib.hid hc8; clear hc8; have m0 : w8.cell? ⟨w7.heap.size, 0, none⟩ = some (.int .i64 o0) := (HC8.out.cell (by simp) (fun h => h)).trans ((Blk.new _ _ _).cell 0); have m1 : w8.cell? ⟨w7.heap.size, 1, none⟩ = some (.int .i64 o1) := (HC8.out.cell (by simp) (fun h => h)).trans ((Blk.new _ _ _).cell 1); have m2 : w8.cell? ⟨w7.heap.size, 2, none⟩ = some (.int .i64 o2) := (HC8.out.cell (by simp) (fun h => h)).trans ((Blk.new _ _ _).cell 2); have hsz : w7.heap.size < w8.heap.size := Nat.lt_of_lt_of_le (by simp) HC8.out.size))
      go_ret
      refine ⟨rfl, ?_⟩
      exact (((((((HCr.out.trans HC2.out).trans HC3.out).trans HC4.out).trans HC5.out).trans HC6.out).trans HC7.out).alloc _).trans HC8.out |>.alloc _
    · obtain rfl : z = (k : Int) := by omega
      have hkl : k < l.length := by rw [HL.out]; omega
      obtain ⟨ab, ao, rfl, hab, hac⟩ := ((HS.out.keep HC1.out).keep HR.out.chg).cells (fun h => by subst h; simp at hkl)
      have hca := hac k hkl
      obtain ⟨x, hx⟩ : ∃ x, l.getD k 0 = x := ⟨_, rfl⟩
      rw [hx] at hca
      have hxg : l[k] = x := by rw [← hx]; simp [List.getD, hkl]
      have hst := rv_step l k hkl
      rw [hxg] at hst
      have HST := Lib.hid hst
      have hkn : k < n := by omega
      have hd' : decide (k < n) = true := by simpa using hkn
      obtain ⟨z', hz'⟩ : ∃ z' : Int, z' = (k : Int) - 1 := ⟨_, rfl⟩
      have hw : IntKind.i64.wrap ((k : Int) - 1) = z' := by rw [IntWalk.i64_in _ (by omega)]; exact hz'.symm
      have HZ' := Lib.hid hz'
      have HJK := Lib.hid hjk
      have hj2 : j ≤ 17592186044415 := by omega
      have hj3 : j ≤ 17592186044415 := by omega
      clear hx hxg hst hac hz' hz hjk hn
      go_wp2_with (first
        | (at_builtin; refine wpList_app1 _ rfl (.tmp 27) (.tmp 32) 22 rfl 3 ij (.int .i64 0) 1 8 Try.underlying22 hij hzaj hzbj hzcj rfl (by decide) (.slice Au j cu) j (rv l (k + 1)) rfl _ _ _ rfl (by first | rfl | simp) HR.out.now rfl (by simp [Value.oneCell']) (by simp only [maxLen]; omega) (by omega) ?_; intro g4 c4 w4 hc4 ht4; have HT4 := Lib.hid ht4; clear ht4))
      go_roundw
      case rel =>
        refine ⟨k, j + 1, _, _, z', rfl, HZ'.out, by have := HJK.out; omega, rfl, ?_⟩
        have h2 := HR.out.trans HT4.out
        rw [HST.out]
        exact h2
      case measure => have := HZ'.out; simp [intOf]; omega
theorem order_all (v0 v1 : Value) (p : Nat) (w : World) (h0 : ArgOk Try.prog w 22 v0) (h1 : ArgOk Try.prog w 22 v1) :
    Calls Try.prog 8 #[v0, v1, .float .f64 p] w fun e w' => e = .returned (.bool true) ∧ Below w.heap.size w w' := by
  obtain ⟨A, l, c, rfl, hw, hs⟩ := ints_sl h0
  obtain ⟨B, es, d, rfl, _, ht⟩ := ints_sl h1
  refine (order_all0 A B _ _ c d p l es w hs ht (fun x hx => wf_i64 (hw x hx)) rfl rfl (ints_len h0)).mono ?_
  rintro e w' ⟨he, hc⟩
  exact ⟨he, hc.below (fun k h => h.elim) (Nat.le_refl _)⟩
end Go.Proofs.Ytgoimoaeeiobnaa.Ga
