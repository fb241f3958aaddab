/- The gauge's law: GaugeFlat. -/
import Derived.Test.YtgoimoaeeiobnaaGaFt
import Derived.Test.YtgoimoaeeiobnaaAp
namespace Go.Proofs.Ytgoimoaeeiobnaa.Ga
open Go.RowKit Go.Hp Go.Fl
set_option linter.unusedSimpArgs false
set_option linter.unusedVariables false
set_option maxRecDepth 100000
attribute [local go_sem] run_store_float
theorem rep_max (x : Int) (c : Nat) (h1 : 1 ≤ c) : Lib.maxOf (rep c x) = x := by
  refine rep_mem (k := c) (max_mem (fun h => ?_))
  have := rep_len c x
  rw [h] at this
  simp at this
  omega
def rv0 (x : Int) (k : Nat) : List Value := (rep k x).map (Value.int .i64)
theorem rv0_step (x : Int) (k : Nat) : rv0 x (k + 1) = rv0 x k ++ [Value.int .i64 x] := by unfold rv0; rw [rep_snoc, List.map_append]; rfl
theorem flat_skip (z y : Int) (p : Nat) (w : World) (h : z < -1099511627776 ∨ 1099511627776 < z ∨ y < 1 ∨ 4096 < y) :
    Calls Try.prog 10 #[.int .i64 z, .int .i64 y, .float .f64 p] w (TruePost w) := by
  by_cases h1 : z < -1099511627776
  · go_enter Try.func10, Try.ntmps10
    go_wp2_with (first
      | (go_at_call 13; (with_reducible refine (shown_any _).mono ?_); rintro r w1 ⟨rfl, hc1⟩; have HC1 := Lib.hid hc1; clear hc1))
    go_ret
    exact ⟨rfl, HC1.out⟩
  · by_cases h2 : 1099511627776 < z
    · go_enter Try.func10, Try.ntmps10
      go_wp2_with (first
        | (go_at_call 13; (with_reducible refine (shown_any _).mono ?_); rintro r w1 ⟨rfl, hc1⟩; have HC1 := Lib.hid hc1; clear hc1))
      go_ret
      exact ⟨rfl, HC1.out⟩
    · by_cases h3 : y < 1
      · go_enter Try.func10, Try.ntmps10
        go_wp2_with (first
          | (go_at_call 13; (with_reducible refine (shown_any _).mono ?_); rintro r w1 ⟨rfl, hc1⟩; have HC1 := Lib.hid hc1; clear hc1))
        go_ret
        exact ⟨rfl, HC1.out⟩
      · have h4 : 4096 < y := by omega
        go_enter Try.func10, Try.ntmps10
        go_wp2_with (first
          | (go_at_call 13; (with_reducible refine (shown_any _).mono ?_); rintro r w1 ⟨rfl, hc1⟩; have HC1 := Lib.hid hc1; clear hc1))
        go_ret
        exact ⟨rfl, HC1.out⟩
theorem share_fits {p : Nat} (h : shareB p = true) : Ieee.double.order p 0 = some .gt ∧ (Ieee.double.order p 4607182418800017408 = some .lt ∨ Ieee.double.order p 4607182418800017408 = some .eq) := by
  unfold shareB at h
  simpa using h
theorem flat_go (z : Int) (n p : Nat) (w : World) (h1 : ¬ z < -1099511627776) (h2 : ¬ 1099511627776 < z) (h3 : 1 ≤ n) (h4 : n ≤ 4096) :
    Calls Try.prog 10 #[.int .i64 z, .int .i64 n, .float .f64 p] w (TruePost w) := by
  obtain ⟨ij, hij, hzaj, hzbj, hzcj⟩ := info_parts Try.info3
  have d3 : decide ((n : Int) < 1) = false := by simp; omega
  have d3' : decide (n < 1) = false := by simp; omega
  have d4 : decide (4096 < (n : Int)) = false := by simp; omega
  have d4' : decide (4096 < n) = false := by simp; omega
  have e3 : ¬ (n : Int) < 1 := by omega
  have e4 : ¬ 4096 < (n : Int) := by omega
  have hz : z.natAbs ≤ 2 ^ 40 := by omega
  have HL := Lib.hid (rep_len n z)
  have HI := Lib.hid (rep_i64 n hz)
  have HO := Lib.hid (fun b off c W hs => of_ok b off n c (rep n z) W hs HI.out HL.out h3 h4)
  have HBAD := Lib.hid (fun A c W h => smooth_bad A n c p W h4 h)
  have HGOOD := Lib.hid (fun A c W hs h => smooth_ok A n c p (rep n z) W hs HI.out HL.out h4 h)
  rw [rep_min z n h3, rep_max z n h3] at HO
  have HZ := Lib.hid hz
  have H3 := Lib.hid h3
  have H4 := Lib.hid h4
  have oM := flat_mean_order z hz n h3 h4
  have oD := flat_dev_order z hz n h3 h4
  have oM2 : FloatKind.f64.format.order (mF (rep n z)) (floatOfInt .f64 z) = some .eq := oM
  have oD2 : FloatKind.f64.format.order (devF (rep n z)) 0 = some .eq := oD
  have OS := Lib.hid (fun hp i hi => flat_order (p := p) hp hz n i hi)
  generalize mF (rep n z) = mm at *
  generalize devF (rep n z) = dd at *
  clear hz oM oD
  go_enter Try.func10, Try.ntmps10
  go_wp2_with (first
    | (go_at_call 13; (with_reducible refine (shown_any _).mono ?_); rintro r w1 ⟨rfl, hc1⟩; have HC1 := Lib.hid hc1; clear hc1))
  have HR0 : Hid (Turns w1 (w1.alloc (.cells #[] 3)) Own.emp (Own.row 3 1 (.slice (some ⟨w1.heap.size, 0, none⟩) 0 0) 0 (rv0 z 0))) := Lib.hid (Turns.row_lit w1 Own.emp #[] 3 1 0 (by simp [maxLen]) rfl)
  go_loopw [7, 8] (fun x4 x5 wr => ∃ (k : Nat) (X : Option Addr) (cx : Nat), x5 = .int .i64 k ∧ k ≤ n ∧ x4 = .slice X k cx ∧ (0 < k → ∃ g, X = some ⟨g, 0, none⟩) ∧ Turns w1 wr Own.emp (Own.row 3 1 (.slice X k cx) k (rv0 z k))) (fun _ x5 _ => n - (intOf x5).toNat)
  case atStart => exact ⟨0, _, _, rfl, Nat.zero_le _, rfl, fun h => absurd h (by omega), HR0.out⟩
  case round =>
    obtain ⟨k, X, cx, rfl, hkn, rfl, hX, ht⟩ := hrel
    have HR := Lib.hid ht
    clear ht
    by_cases hlt : k < n
    · have hd : decide ((k : Int) < (n : Int)) = true := by simp; omega
      have hd' : decide (k < n) = true := by simp; omega
      go_wp2_with (first
        | (at_builtin; refine wpList_app1 _ rfl (.tmp 35) (.tmp 37) 22 rfl 3 ij (.int .i64 0) 1 8 Try.underlying22 hij hzaj hzbj hzcj rfl (by decide) (.slice X k cx) k (rv0 z k) rfl _ _ _ rfl (by first | rfl | simp) HR.out.now rfl (by simp [Value.oneCell']) (by simp only [maxLen]; omega) (by omega) ?_; intro g4 c4 w4 hc4 ht4; have HT4 := Lib.hid ht4; clear ht4))
      go_roundw
      case rel =>
        refine ⟨k + 1, _, _, by simp, by omega, rfl, fun _ => ⟨_, rfl⟩, ?_⟩
        have h2 := HR.out.trans HT4.out
        rw [rv0_step]
        exact h2
      case measure => simp [intOf]; omega
    · have hd : decide ((k : Int) < (n : Int)) = false := by simp; omega
      have hd' : decide (k < n) = false := by simp; omega
      obtain rfl : k = n := by omega
      obtain ⟨g, rfl⟩ := hX H3.out
      have HK0 : Hid (Sl wr (some ⟨g, 0, none⟩) (rep k z)) := Lib.hid (Sl.of_row HR.out.now)
      have HCr : Hid (Chg (fun _ => False) w wr) := Lib.hid (HC1.out.trans HR.out.chg)
      by_cases hp : shareB p = true
      · have HP := Lib.hid hp
        have HORD := Lib.hid (OS.out hp)
        have s0 : FloatKind.f64.format.order p 0 = some .gt := (share_fits hp).1
        have s1 : FloatKind.f64.format.order p 4607182418800017408 = some .lt ∨ FloatKind.f64.format.order p 4607182418800017408 = some .eq := (share_fits hp).2
        clear hp hX
        have s1' : (!FloatKind.f64.format.order p 4607182418800017408 == some Ordering.lt) = false ∨ (!FloatKind.f64.format.order p 4607182418800017408 == some Ordering.eq) = false := by rcases s1 with h | h <;> simp [h]
        go_wp2_with (first
          | (go_at_call 15; (with_reducible refine (HO.out _ _ _ _ HK0.out).mono ?_); rintro r w2 ⟨rfl, hc2⟩; have HC2 := Lib.hid hc2; clear hc2; have HK2 := Lib.hid ((HK0.out.keep HC2.out).alloc (.cells #[.int .i64 k, .int .i64 z, .int .i64 z, .float .f64 mm, .float .f64 dd] 27)))
          | (go_at_call 29; (with_reducible refine (HGOOD.out _ _ _ HK2.out HP.out).mono ?_); rintro r w3 ⟨X, cx, rfl, ht3⟩; have HT3 := Lib.hid ht3; clear ht3))
        all_goals first | (exfalso; simp_all; done) | skip
        have HCH : Hid (Chg (fun _ => False) w w3) := Lib.hid (((HCr.out.trans HC2.out).alloc _).trans HT3.out.chg)
        go_loopw [12] (fun x12 wr => ∃ i : Nat, x12 = .int .i64 i ∧ i ≤ k ∧ ∃ q, w3.drewN q = wr) (fun x12 _ => k - (intOf x12).toNat)
        case atStart => exact ⟨0, rfl, Nat.zero_le _, 0, rfl⟩
        case round =>
          obtain ⟨i, rfl, hik, q2, rfl⟩ := hrel
          by_cases hlt2 : i < k
          · have hd3 : decide ((i : Int) < (k : Int)) = true := by simp; omega
            have hd4 : decide (i < k) = true := by simp; omega
            have ho := HORD.out i hlt2
            have hXs : ∃ g, X = some ⟨g, 0, none⟩ := by
              rcases HT3.out.now.2 with ⟨_, h0⟩ | ⟨g', cap, cur, hv, _⟩
              · omega
              · exact ⟨g', (Value.slice.inj hv).1⟩
            obtain ⟨g2, rfl⟩ := hXs
            obtain ⟨u, hu1, hu2, hu3⟩ := row_there HT3.out.now i hlt2
            have hm1 : (smF p (rep k z) k)[i]? = some (.float .f64 (smAt p (rep k z) i)) := by unfold smF; rw [List.getElem?_map, List.getElem?_range hlt2]; rfl
            rw [hm1] at hu1
            obtain rfl := Option.some.inj hu1
            generalize smAt p (rep k z) i = sv at *
            have c2 : (w3.drewN q2).cell? ⟨g2, i, none⟩ = some (.float .f64 sv) := hu2
            have ho2 : FloatKind.f64.format.order sv (floatOfInt .f64 z) = some .eq := ho
            clear ho hu1 hm1 hu3
            go_wp2_with fail
            go_roundw
            case rel => exact ⟨i + 1, by simp, by omega, _, rfl⟩
            case measure => simp [intOf]; omega
          · have hd3 : decide ((i : Int) < (k : Int)) = false := by simp; omega
            have hd4 : decide (i < k) = false := by simp; omega
            go_wp2_with fail
            go_ret
            exact ⟨rfl, HCH.out.drewN _⟩
      · have hp' : shareB p = false := by simpa using hp
        have HP := Lib.hid hp'
        clear hp hp' hX
        go_wp2_with (first
          | (go_at_call 15; (with_reducible refine (HO.out _ _ _ _ HK0.out).mono ?_); rintro r w2 ⟨rfl, hc2⟩; have HC2 := Lib.hid hc2; clear hc2)
          | (go_at_call 29; (with_reducible refine (HBAD.out _ _ _ HP.out).mono ?_); rintro r w3 ⟨rfl, rfl⟩))
        all_goals first
          | (go_ret; exact ⟨rfl, (HCr.out.trans HC2.out).alloc _⟩)
          | (exfalso; have hno := HP.out; unfold shareB at hno; simp_all [FloatKind.format])
theorem flat_law (v0 v1 : Int) (p : Nat) (h0 : (Lit.int .i64 v0).wf = true) (h1 : (Lit.int .i64 v1).wf = true) (w : World) :
    Calls Try.prog 10 #[.int .i64 v0, .int .i64 v1, .float .f64 p] w fun e w' => e = .returned (.bool true) ∧ Below w.heap.size w w' := by
  have key : Calls Try.prog 10 #[.int .i64 v0, .int .i64 v1, .float .f64 p] w (TruePost w) := by
    by_cases hs : v0 < -1099511627776 ∨ 1099511627776 < v0 ∨ v1 < 1 ∨ 4096 < v1
    · exact flat_skip v0 v1 p w hs
    · obtain ⟨n, rfl⟩ : ∃ n : Nat, v1 = n := ⟨v1.toNat, by omega⟩
      exact flat_go v0 n p w (by omega) (by omega) (by omega) (by omega)
  refine key.mono ?_
  rintro e w' ⟨he, hc⟩
  exact ⟨he, hc.below (fun k h => h.elim) (Nat.le_refl _)⟩
end Go.Proofs.Ytgoimoaeeiobnaa.Ga
