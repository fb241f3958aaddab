/- The gauge: the reference's Smooth. -/
import Derived.Test.YtgoimoaeeiobnaaGaRs
import Derived.Test.YtgoimoaeeiobnaaGaSo
namespace Go.Proofs.Ytgoimoaeeiobnaa.Ga
open Go.RowKit Go.Hp Go.Fl
set_option linter.unusedSimpArgs false
set_option linter.unusedVariables false
set_option maxRecDepth 100000
attribute [local go_sem] run_store_float
theorem rsmooth_many (A : Option Addr) (n c p : Nat) (w : World) (h : 4096 < n) :
    Calls Try.prog 28 #[.slice A n c, .float .f64 p] w fun e w' => e = .returned (.tuple #[.slice none 0 0, .int .i64 220]) ∧ w = w' := by
  have d1 : decide (4096 < n) = true := by simpa using h
  have d2 : decide ((4096 : Int) < (n : Int)) = true := by simp; omega
  go_enter Try.func28, Try.ntmps28
  go_wp2
  go_ret2
  exact ⟨rfl, rfl⟩
theorem rsmooth_bad (A : Option Addr) (n c p : Nat) (w : World) (h : n ≤ 4096) (hp : shareB p = false) :
    Calls Try.prog 28 #[.slice A n c, .float .f64 p] w fun e w' => e = .returned (.tuple #[.slice none 0 0, .int .i64 221]) ∧ w = w' := by
  have d1 : decide (4096 < n) = false := by simp; omega
  have d2 : decide ((4096 : Int) < (n : Int)) = false := by simp; omega
  go_enter Try.func28, Try.ntmps28
  go_wp2_with (first
    | (go_at_call 45; refine (rshare_any _ _).mono ?_; rintro r w1 ⟨rfl, rfl⟩; rw [hp]))
  go_ret2
  exact ⟨rfl, rfl⟩
theorem rsmooth_ok (A : Option Addr) (n c p : Nat) (l : List Int) (w : World) (hs : Sl w A l) (hi : I64 l) (hl : l.length = n) (h : n ≤ 4096) (hp : shareB p = true) :
    Calls Try.prog 28 #[.slice A n c, .float .f64 p] w fun e w' => ∃ X cx, e = .returned (.tuple #[.slice X n cx, .int .i64 0]) ∧ Turns w w' Own.emp (Own.row 25 1 (.slice X n cx) n (smF p l n)) := by
  obtain ⟨ij, hij, hzaj, hzbj, hzcj⟩ := info_parts Try.info25
  have d1 : decide (4096 < n) = false := by simp; omega
  have d2 : decide ((4096 : Int) < (n : Int)) = false := by simp; omega
  have HS := Lib.hid hs
  have HI := Lib.hid hi
  have HL := Lib.hid hl
  have HP := Lib.hid hp
  have HOK := Lib.hid (fun i hi' => smAt_ok hp hi i hi')
  clear hs hi hl hp
  go_enter Try.func28, Try.ntmps28
  go_wp2_with (first
    | (go_at_call 45; refine (rshare_any _ _).mono ?_; rintro r w1 ⟨rfl, rfl⟩; rw [HP.out]))
  have HR0 : Hid (Turns w (w.alloc (.cells #[] 25)) Own.emp (Own.row 25 1 (.slice (some ⟨w.heap.size, 0, none⟩) 0 0) 0 (smF p l 0))) := Lib.hid (Turns.row_lit w Own.emp #[] 25 1 0 (by simp [maxLen]) rfl)
  go_loopw [6, 7, 8] (fun x6 x7 x8 wr => ∃ (i : Nat) (X : Option Addr) (cx m : Nat), x8 = .int .i64 i ∧ i ≤ n ∧ x6 = .slice X i cx ∧ x7 = .float .f64 m ∧ (∀ j, j + 1 = i → m = smAt p l j) ∧ Turns w wr Own.emp (Own.row 25 1 (.slice X i cx) i (smF p l i))) (fun _ _ x8 _ => n - (intOf x8).toNat)
  case atStart => exact ⟨0, _, _, 0, rfl, Nat.zero_le _, rfl, rfl, fun j hj => absurd hj (by omega), HR0.out⟩
  case round =>
    obtain ⟨i, X, cx, m, rfl, hin, rfl, rfl, hm, ht⟩ := hrel
    have HR := Lib.hid ht
    have HM := Lib.hid hm
    clear ht hm
    by_cases hlt : i < n
    · have hd : decide ((i : Int) < (n : Int)) = true := by simp; omega
      have hd' : decide (i < n) = true := by simp; omega
      have hil : i < l.length := by rw [HL.out]; exact hlt
      obtain ⟨ab, ao, rfl, hab, hac⟩ := (HS.out.keep HR.out.chg).cells (fun h => by subst h; simp at hil)
      have hca := hac i hil
      obtain ⟨x, hx⟩ : ∃ x, l.getD i 0 = x := ⟨_, rfl⟩
      rw [hx] at hca
      obtain ⟨r, hr⟩ : ∃ r, smAt p l i = r := ⟨_, rfl⟩
      have hst : smF p l (i + 1) = smF p l i ++ [.float .f64 r] := by unfold smF; rw [List.range_succ, List.map_append, ← hr]; rfl
      have HST := Lib.hid hst
      have HRR : Hid (∀ j, j + 1 = i + 1 → r = smAt p l j) := Lib.hid (fun j hj => by have e : j = i := (by omega); rw [e]; exact hr.symm)
      by_cases hi0 : i = 0
      · have hr0 : r = floatOfInt .f64 x := by rw [← hr, ← hx, hi0]; rfl
        subst hr0
        have hk0 : ((i : Int) == 0) = true := by simp; omega
        clear hst hr hx hac hi0
        go_wp2_with (first
          | (at_builtin; refine wpList_app1 _ rfl (.tmp 44) (.tmp 46) 47 rfl 25 ij (.float .f64 0) 1 8 Try.underlying47 hij hzaj hzbj hzcj rfl (by decide) (.slice X i cx) i (smF p l i) rfl _ _ _ rfl (by first | rfl | simp) HR.out.now rfl (by simp [Value.oneCell']) (by simp only [maxLen]; omega) (by omega) ?_; intro g4 c4 w4 hc4 ht4; have HT4 := Lib.hid ht4; clear ht4))
        go_roundw
        case rel =>
          refine ⟨i + 1, _, _, _, by simp, by omega, rfl, rfl, HRR.out, ?_⟩
          have h2 := HR.out.trans HT4.out
          rw [HST.out]
          exact h2
        case measure => simp [intOf]; omega
      · obtain ⟨j, hj⟩ : ∃ j, j + 1 = i := ⟨i - 1, by omega⟩
        have hm := HM.out j hj
        subst hm
        have hok := HOK.out j (by omega)
        have hxr : -9223372036854775808 ≤ x ∧ x ≤ 9223372036854775807 := by
          have : x = l[i] := by rw [← hx]; simp [List.getD, hil]
          rw [this]
          exact HI.out _ (List.getElem_mem hil)
        obtain ⟨d, q, e1, e2, e3, _, _⟩ := sm_step HP.out hok.1 hok.2 hxr
        have hmr : mv p (smAt p l j) x = r := by rw [← hr, ← hx, ← hj]; rfl
        rw [hmr] at e3
        have F1 := fun w => run_float_arith (P := Try.prog) w .sub 25 .f64 (floatOfInt .f64 x) (smAt p l j) d e1
        have F2 := fun w => run_float_arith (P := Try.prog) w .mul 25 .f64 p d q e2
        have F3 := fun w => run_float_arith (P := Try.prog) w .add 25 .f64 (smAt p l j) q r e3
        have hk0 : ((i : Int) == 0) = false := by simp; omega
        clear hr hx hxr hmr hab hac hst e1 e2 e3 hok hi0 hj HM
        generalize smAt p l j = sj at *
        go_wp2_with (first
          | (at_builtin; refine wpList_app1 _ rfl (.tmp 44) (.tmp 46) 47 rfl 25 ij (.float .f64 0) 1 8 Try.underlying47 hij hzaj hzbj hzcj rfl (by decide) (.slice X i cx) i (smF p l i) rfl _ _ _ rfl (by first | rfl | simp) HR.out.now rfl (by simp [Value.oneCell']) (by simp only [maxLen]; omega) (by omega) ?_; intro g4 c4 w4 hc4 ht4; have HT4 := Lib.hid ht4; clear ht4))
        go_roundw
        case rel =>
          refine ⟨i + 1, _, _, _, by simp, by omega, rfl, rfl, HRR.out, ?_⟩
          have h2 := HR.out.trans HT4.out
          rw [HST.out]
          exact h2
        case measure => simp [intOf]; omega
    · have hd : decide ((i : Int) < (n : Int)) = false := by simp; omega
      have hd' : decide (i < n) = false := by simp; omega
      obtain rfl : i = n := by omega
      go_wp2_with fail
      go_ret2
      exact ⟨X, cx, rfl, HR.out⟩
end Go.Proofs.Ytgoimoaeeiobnaa.Ga
