/- The gauge's law: GaugeRises. -/
import Derived.Test.YtgoimoaeeiobnaaGaL6
import Derived.Test.YtgoimoaeeiobnaaGaRi
namespace Go.Proofs.Ytgoimoaeeiobnaa.Ga
open Go.RowKit Go.Hp Go.Fl
set_option linter.unusedSimpArgs false
set_option linter.unusedVariables false
set_option maxRecDepth 100000
attribute [local go_sem] run_store_float
theorem fits_of {q o : Nat} {A B : Prop} (h : (A ∨ B) ∧ ((!FloatKind.f64.format.order q o == some Ordering.lt) = false ∨ (!FloatKind.f64.format.order q o == some Ordering.eq) = false)) : Ieee.double.order q o = some .lt ∨ Ieee.double.order q o = some .eq := by
  rcases h.2 with h | h
  · left; show FloatKind.f64.format.order q o = _; simpa using h
  · right; show FloatKind.f64.format.order q o = _; simpa using h
theorem rises_many (A : Option Addr) (n c p q : Nat) (w : World) (h : 4096 < n) :
    Calls Try.prog 7 #[.slice A n c, .float .f64 p, .float .f64 q] w (TruePost w) := by
  go_enter Try.func7, Try.ntmps7
  go_wp2_with (first
    | (go_at_call 13; (with_reducible refine (shown_any _).mono ?_); rintro r w1 ⟨rfl, hc1⟩; have HC1 := Lib.hid hc1; clear hc1)
    | (go_at_call 15; (with_reducible refine (of_many _ _ _ _ h).mono ?_); rintro r w2 ⟨rfl, hc2⟩; have HC2 := Lib.hid hc2; clear hc2)
    | (go_at_call 21; (with_reducible refine (share_many _ _ _ _ _ h).mono ?_); rintro r w2 ⟨rfl, rfl⟩))
  go_ret
  exact ⟨rfl, (HC1.out.trans HC2.out).alloc _⟩
theorem rises_none (A : Option Addr) (c p q : Nat) (w : World) :
    Calls Try.prog 7 #[.slice A 0 c, .float .f64 p, .float .f64 q] w (TruePost w) := by
  go_enter Try.func7, Try.ntmps7
  go_wp2_with (first
    | (go_at_call 13; (with_reducible refine (shown_any _).mono ?_); rintro r w1 ⟨rfl, hc1⟩; have HC1 := Lib.hid hc1; clear hc1)
    | (go_at_call 15; (with_reducible refine (of_none _ _ _).mono ?_); rintro r w2 ⟨rfl, hc2⟩; have HC2 := Lib.hid hc2; clear hc2)
    | (go_at_call 21; (with_reducible refine (share_none _ _ _ _).mono ?_); rintro r w2 ⟨rfl, rfl⟩))
  go_ret
  exact ⟨rfl, (HC1.out.trans HC2.out).alloc _⟩
theorem rises_ok (b off n c p q : Nat) (l : List Int) (w : World) (hs : Sl w (some ⟨b, off, none⟩) l) (hi : I64 l) (hl : l.length = n) (h1 : 1 ≤ n) (h2 : n ≤ 4096) :
    Calls Try.prog 7 #[.slice (some ⟨b, off, none⟩) n c, .float .f64 p, .float .f64 q] w (TruePost w) := by
  have hone : shareOf l 4607182418800017408 = Lib.maxOf l := share_one (by omega) (by omega)
  have hO := Lib.hid (fun W h => of_ok b off n c l W h hi hl h1 h2)
  have hSa := Lib.hid (fun W h => share_ok b off n c l 4607182418800017408 W h hl h1 h2 one_share)
  have hSp := Lib.hid (fun W h hp => share_ok b off n c l p W h hl h1 h2 hp)
  have hSq := Lib.hid (fun W h hp => share_ok b off n c l q W h hl h1 h2 hp)
  unfold SharePost at hSa hSp hSq
  rw [hone] at hSa
  have HS := Lib.hid hs
  have HL := Lib.hid hl
  clear hs hi hl hone
  obtain ⟨mx, hmx⟩ : ∃ mx, Lib.maxOf l = mx := ⟨_, rfl⟩
  obtain ⟨mn, hmn⟩ : ∃ mn, Lib.minOf l = mn := ⟨_, rfl⟩
  rw [hmx, hmn] at hO
  rw [hmx] at hSa
  have HMN := Lib.hid hmn
  clear hmx hmn
  go_enter Try.func7, Try.ntmps7
  go_wp2_with (first
    | (go_at_call 13; (with_reducible refine (shown_any _).mono ?_); rintro r w1 ⟨rfl, hc1⟩; have HC1 := Lib.hid hc1; clear hc1; have HS1 := Lib.hid (HS.out.keep HC1.out))
    | (go_at_call 15; (with_reducible refine (hO.out _ HS1.out).mono ?_); rintro r w2 ⟨rfl, hc2⟩; have HC2 := Lib.hid hc2; clear hc2; have HS2 := Lib.hid (HS1.out.keep HC2.out))
    | (go_at_call 21; (with_reducible refine (hSa.out _ ?_).mono ?_); exact HS2.out.alloc _; rintro r w3 ⟨rfl, hc3⟩; have HC3 := Lib.hid hc3; clear hc3; have HS3 := Lib.hid ((HS2.out.alloc _).keep HC3.out); have hcm : w3.cell? ⟨w2.heap.size, 2, none⟩ = some (.int .i64 mx) := (HC3.out.cell (by simp) (fun h => h)).trans ((Blk.new _ _ _).cell 2); have hcl : w3.cell? ⟨w2.heap.size, 1, none⟩ = some (.int .i64 mn) := (HC3.out.cell (by simp) (fun h => h)).trans ((Blk.new _ _ _).cell 1); have HCL := Lib.hid hcl; clear hcl; have HSZ : Hid (w2.heap.size < w3.heap.size) := Lib.hid (Nat.lt_of_lt_of_le (by simp) HC3.out.size))
    | (go_at_call 21; have HSH := Lib.hid (rises_fnt (p := p) (q := q) (by assumption) (by assumption) (fits_of (by assumption))); (with_reducible refine (hSp.out _ ?_ HSH.out.1).mono ?_); exact HS3.out; rintro r w4 ⟨rfl, hc4⟩; have HC4 := Lib.hid hc4; clear hc4; have HS4 := Lib.hid (HS3.out.keep HC4.out); obtain ⟨x, hx⟩ : ∃ x, shareOf l p = x := ⟨_, rfl⟩; rw [hx]; have HX := Lib.hid hx; clear hx)
    | (go_at_call 21; (with_reducible refine (hSq.out _ ?_ HSH.out.2.1).mono ?_); exact HS4.out; rintro r w5 ⟨rfl, hc5⟩; have HC5 := Lib.hid hc5; clear hc5; have HS5 := Lib.hid (HS4.out.keep HC5.out); obtain ⟨y, hy⟩ : ∃ y, shareOf l q = y := ⟨_, rfl⟩; rw [hy]; have hxy : ¬ y < x := (by have := share_mono HSH.out.1 HSH.out.2.1 HSH.out.2.2 (zs := l) (by rw [HL.out]; exact h1) (by rw [HL.out]; exact h2); rw [HX.out, hy] at this; omega); clear hy; have hxm : ¬ x < mn := (by have := min_le (share_mem HSH.out.1 (zs := l) (by rw [HL.out]; exact h1) (by rw [HL.out]; exact h2)); rw [HX.out, HMN.out] at this; omega); have hcl5 : w5.cell? ⟨w2.heap.size, 1, none⟩ = some (.int .i64 mn) := ((HC5.out.cell (show w2.heap.size < w4.heap.size by have := HSZ.out; have := HC4.out.size; omega) (fun h => h)).trans ((HC4.out.cell HSZ.out (fun h => h)).trans HCL.out))))
  all_goals first | (go_ret; exact ⟨rfl, ((HC1.out.trans HC2.out).alloc _).trans HC3.out⟩) | skip
  have HIN : Hid (x ∈ l) := Lib.hid (by rw [← HX.out]; exact share_mem HSH.out.1 (by rw [HL.out]; exact h1) (by rw [HL.out]; exact h2))
  have HCH : Hid (Chg (fun _ => False) w w5) := Lib.hid (((((HC1.out.trans HC2.out).alloc _).trans HC3.out).trans HC4.out).trans HC5.out)
  go_loopw [13] (fun x13 wr => ∃ i : Nat, x13 = .int .i64 i ∧ i ≤ n ∧ (∀ j (hj : j < l.length), j < i → l[j] ≠ x) ∧ ∃ q, w5.drewN q = wr) (fun x13 _ => n - (intOf x13).toNat)
  case atStart => exact ⟨0, rfl, Nat.zero_le _, fun j hj h => absurd h (by omega), 0, rfl⟩
  case round =>
    obtain ⟨i, rfl, hin, hno, q', rfl⟩ := hrel
    have HNO := Lib.hid hno
    clear hno
    by_cases hlt : i < n
    · have hd : decide ((i : Int) < (n : Int)) = true := by simp; omega
      have hd' : decide (i < n) = true := by simp; omega
      have hil : i < l.length := by rw [HL.out]; exact hlt
      obtain ⟨b', off', he, hb', hc'⟩ := HS5.out.cells (fun h => by subst h; simp at hil)
      cases he
      have c0 : w5.cell? ⟨b, off + i, none⟩ = some (.int .i64 (l.getD i 0)) := hc' i hil
      obtain ⟨z, hz⟩ : ∃ z, l.getD i 0 = z := ⟨_, rfl⟩
      have hzg : l[i] = z := by rw [← hz]; simp [List.getD, hil]
      have HZ := Lib.hid hzg
      rw [hz] at c0
      have c1 : (w5.drewN q').cell? ⟨b, off + i, none⟩ = some (.int .i64 z) := c0
      clear hz hzg hc'
      by_cases hzx : z = x
      · have q1 : decide (z = x) = true := by simpa using hzx
        go_wp2_with fail
        go_ret
        exact ⟨rfl, HCH.out.drewN _⟩
      · have q1 : decide (z = x) = false := by simpa using hzx
        go_wp2_with fail
        go_roundw
        case rel =>
          refine ⟨i + 1, by simp, by omega, fun j hj h => ?_, q', rfl⟩
          rcases Nat.lt_or_ge j i with h3 | h3
          · exact HNO.out j hj h3
          · obtain rfl : j = i := by omega
            rw [HZ.out]
            exact hzx
        case measure => simp [intOf]; omega
    · exfalso
      obtain ⟨j, hj, he⟩ := List.getElem_of_mem HIN.out
      exact HNO.out j hj (by have := HL.out; omega) he
theorem rises_all (v0 : Value) (p q : Nat) (w : World) (h0 : ArgOk Try.prog w 22 v0) :
    Calls Try.prog 7 #[v0, .float .f64 p, .float .f64 q] w fun e w' => e = .returned (.bool true) ∧ Below w.heap.size w w' := by
  obtain ⟨A, l, c, rfl, hw, hs⟩ := ints_sl h0
  have key : Calls Try.prog 7 #[.slice A l.length c, .float .f64 p, .float .f64 q] w (TruePost w) := by
    by_cases hn : l.length ≤ 4096
    · by_cases hne : l = []
      · subst hne; exact rises_none A c p q w
      · obtain ⟨b, off, rfl, _, _⟩ := hs.cells hne
        have h1 : 1 ≤ l.length := by cases l with | nil => exact absurd rfl hne | cons => simp
        exact rises_ok b off _ c p q l w hs (fun x hx => wf_i64 (hw x hx)) rfl h1 hn
    · exact rises_many A _ c p q w (by omega)
  refine key.mono ?_
  rintro e w' ⟨he, hc⟩
  exact ⟨he, hc.below (fun k h => h.elim) (Nat.le_refl _)⟩
end Go.Proofs.Ytgoimoaeeiobnaa.Ga
