/- The gauge's law: GaugeWhole. -/
import Derived.Test.YtgoimoaeeiobnaaGaRo
import Derived.Test.YtgoimoaeeiobnaaGaSo
namespace Go.Proofs.Ytgoimoaeeiobnaa.Ga
open Go.RowKit Go.Hp Go.Fl
set_option linter.unusedSimpArgs false
set_option linter.unusedVariables false
set_option maxRecDepth 100000
attribute [local go_sem] run_store_float
theorem mul_one {d : Nat} (hd : Fnt d) : ∃ q, Ieee.double.mul 4607182418800017408 d = some q ∧ Fnt q ∧ vu q = vu d := by
  obtain ⟨u, k, b, e1, e2, e3⟩ := mul_val one_val.1 hd
  have hk : k * 2 ^ b = (vu d).natAbs := by
    refine Nat.eq_of_mul_eq_mul_right un_pos ?_
    rw [e3, one_val.2, Int.natAbs_natCast, Nat.mul_comm]
  have hv := vu_rg hd
  have hr : rg (k * 2 ^ b) < inf := by rw [hk]; exact hv.1
  obtain ⟨n1, n2, _⟩ := nearest_fin u k b hr
  have hx : xr (rg (k * 2 ^ b)) = (vu d).natAbs := by rw [hk, ← rd_abs, hv.2]
  have hds := sign_vu hd
  refine ⟨_, e1, n1, ?_⟩
  rw [n2, hx]
  have hs0 : (4607182418800017408 / 2 ^ 63 % 2 == 1) = false := by decide
  rw [hs0] at e2
  rcases Nat.mod_two_eq_zero_or_one (d / 2 ^ 63) with h | h
  · have hu : u = false := by rw [e2, h]; rfl
    have := hds.2 h
    rw [hu]
    simp only [Bool.false_eq_true, if_false]
    omega
  · have hu : u = true := by rw [e2, h]; rfl
    have := hds.1 h
    rw [hu]
    simp only [if_true]
    omega
theorem ok_wide {z : Int} (h : z.natAbs ≤ 2 ^ 53) : Ok ((z * (un : Int)).natAbs) := by
  rw [mul_un_natAbs]
  rcases Nat.lt_or_ge z.natAbs (2 ^ 53) with h1 | h1
  · exact ok_int h1
  · have e : z.natAbs = 2 ^ 52 * 2 ^ 1 := by omega
    rw [e]
    exact ok_shift (by omega) (by omega)
theorem whole_step {m : Nat} {a x : Int} (hm : Fnt m) (hv : vu m = a * (un : Int)) (ha : a.natAbs ≤ 2 ^ 52) (hx : x.natAbs ≤ 2 ^ 52) :
    Fnt (mv 4607182418800017408 m x) ∧ vu (mv 4607182418800017408 m x) = x * (un : Int) := by
  have hf := fi_val x (by omega)
  have hfe := fi_exact x (by omega)
  have hD : vu (fi x) - vu m = (x - a) * (un : Int) := by rw [hfe, hv, Int.sub_mul]
  have ok1 := rd_ok (ok_wide (z := x - a) (by omega))
  obtain ⟨d, d1, d2, d3⟩ := sub_val hf.1 hm (by rw [hD]; exact ok1.2)
  rw [hD, ok1.1] at d3
  obtain ⟨q, q1, q2, q3⟩ := mul_one d2
  have hS : vu m + vu q = x * (un : Int) := by rw [q3, d3, hv, ← Int.add_mul]; congr 1; omega
  have ok2 := rd_ok (ok_wide (z := x) (by omega))
  obtain ⟨r, r1, r2, r3, _⟩ := add_val hm q2 (by rw [hS]; exact ok2.2)
  have hmv : mv 4607182418800017408 m x = r := by unfold mv; rw [d1, Option.getD_some, q1, Option.getD_some, r1]; rfl
  rw [hmv]
  exact ⟨r2, by rw [r3, hS, ok2.1]⟩
theorem whole_all {l : List Int} (h : ∀ x ∈ l, x.natAbs ≤ 2 ^ 52) (i : Nat) (hi : i < l.length) : Fnt (smAt 4607182418800017408 l i) ∧ vu (smAt 4607182418800017408 l i) = l.getD i 0 * (un : Int) := by
  have hx : ∀ j, j < l.length → (l.getD j 0).natAbs ≤ 2 ^ 52 := by
    intro j hj
    have : l.getD j 0 = l[j] := by simp [List.getD, hj]
    rw [this]
    exact h _ (List.getElem_mem hj)
  induction i with
  | zero =>
    have h0 := hx 0 hi
    exact ⟨(fi_val (l.getD 0 0) (by omega)).1, fi_exact _ (by omega)⟩
  | succ i ih =>
    obtain ⟨i1, i2⟩ := ih (by omega)
    exact whole_step i1 i2 (hx i (by omega)) (hx (i + 1) hi)
theorem whole_order {l : List Int} (h : ∀ x ∈ l, x.natAbs ≤ 2 ^ 52) (i : Nat) (hi : i < l.length) : Ieee.double.order (smAt 4607182418800017408 l i) (fi (l.getD i 0)) = some .eq := by
  obtain ⟨h1, h2⟩ := whole_all h i hi
  have h3 : (l.getD i 0).natAbs ≤ 2 ^ 52 := by
    have : l.getD i 0 = l[i] := by simp [List.getD, hi]
    rw [this]
    exact h _ (List.getElem_mem hi)
  rw [order_val h1 (fi_val _ (by omega)).1, h2, fi_exact _ (by omega), compare_self]
theorem whole_many (A : Option Addr) (n c : Nat) (w : World) (h : 4096 < n) :
    Calls Try.prog 11 #[.slice A n c] w (TruePost w) := by
  have d1 : decide (4096 < n) = true := by simpa using h
  have d2 : decide ((4096 : Int) < (n : Int)) = true := by simp; omega
  go_enter Try.func11, Try.ntmps11
  go_wp2_with (first
    | (go_at_call 13; (with_reducible refine (shown_any _).mono ?_); rintro r w1 ⟨rfl, hc1⟩; have HC1 := Lib.hid hc1; clear hc1)
    | (go_at_call 29; (with_reducible refine (smooth_many _ _ _ _ _ h).mono ?_); rintro r w2 ⟨rfl, rfl⟩))
  go_ret
  exact ⟨rfl, HC1.out⟩
theorem whole_ok (A : Option Addr) (n c : Nat) (l : List Int) (w : World) (hs : Sl w A l) (hi : I64 l) (hl : l.length = n) (h : n ≤ 4096) :
    Calls Try.prog 11 #[.slice A n c] w (TruePost w) := by
  have d1 : decide (4096 < n) = false := by simp; omega
  have d2 : decide ((4096 : Int) < (n : Int)) = false := by simp; omega
  have HM := Lib.hid (fun W h' => smooth_ok A n c 4607182418800017408 l W h' hi hl h one_share)
  have HS := Lib.hid hs
  have HL := Lib.hid hl
  clear hs hi hl
  go_enter Try.func11, Try.ntmps11
  go_wp2_with (first
    | (go_at_call 13; (with_reducible refine (shown_any _).mono ?_); rintro r w1 ⟨rfl, hc1⟩; have HC1 := Lib.hid hc1; clear hc1)
    | (go_at_call 29; (with_reducible refine (HM.out _ (HS.out.keep HC1.out)).mono ?_); rintro r w2 ⟨X, cx, rfl, ht2⟩; have HT2 := Lib.hid ht2; clear ht2))
  have HSL := Lib.hid ((HS.out.keep HC1.out).keep HT2.out.chg)
  have HCH : Hid (Chg (fun _ => False) w w2) := Lib.hid (HC1.out.trans HT2.out.chg)
  go_loopw [5] (fun x5 wr => ∃ i : Nat, x5 = .int .i64 i ∧ i ≤ n ∧ (∀ j (hj : j < l.length), j < i → l[j].natAbs ≤ 2 ^ 52) ∧ ∃ q, w2.drewN q = wr) (fun x5 _ => n - (intOf x5).toNat)
  case atStart => exact ⟨0, rfl, Nat.zero_le _, fun j hj h => absurd h (by omega), 0, rfl⟩
  case round =>
    obtain ⟨i, rfl, hin, hno, q', rfl⟩ := hrel
    have HNO := Lib.hid hno
    clear hno
    by_cases hlt : i < n
    · have hd : decide ((i : Int) < (n : Int)) = true := by simp; omega
      have hd' : decide (i < n) = true := by simp; omega
      have hil : i < l.length := by rw [HL.out]; exact hlt
      obtain ⟨b, off, rfl, hb', hc'⟩ := HSL.out.cells (fun h => by subst h; simp at hil)
      have c0 : w2.cell? ⟨b, off + i, none⟩ = some (.int .i64 (l.getD i 0)) := hc' i hil
      obtain ⟨x, hx⟩ : ∃ x, l.getD i 0 = x := ⟨_, rfl⟩
      have hzg : l[i] = x := by rw [← hx]; simp [List.getD, hil]
      have HZ := Lib.hid hzg
      rw [hx] at c0
      have c1 : (w2.drewN q').cell? ⟨b, off + i, none⟩ = some (.int .i64 x) := c0
      clear hx hzg hc'
      by_cases h1 : x < -4503599627370496
      · have e1 : decide (x < -4503599627370496) = true := by simpa using h1
        go_wp2_with fail
        go_ret
        exact ⟨rfl, HCH.out.drewN _⟩
      · have e1 : decide (x < -4503599627370496) = false := by simpa using h1
        by_cases h2 : 4503599627370496 < x
        · have e2 : decide (4503599627370496 < x) = true := by simpa using h2
          go_wp2_with fail
          go_ret
          exact ⟨rfl, HCH.out.drewN _⟩
        · have e2 : decide (4503599627370496 < x) = false := by simpa using h2
          go_wp2_with fail
          go_roundw
          case rel =>
            refine ⟨i + 1, by simp, by omega, fun j hj h => ?_, q', rfl⟩
            rcases Nat.lt_or_ge j i with h3 | h3
            · exact HNO.out j hj h3
            · obtain rfl : j = i := by omega
              rw [HZ.out]
              omega
          case measure => simp [intOf]; omega
    · have hd : decide ((i : Int) < (n : Int)) = false := by simp; omega
      have hd' : decide (i < n) = false := by simp; omega
      obtain rfl : i = n := by omega
      have HORD := Lib.hid (whole_order (l := l) (fun x hx => by obtain ⟨j, hj, rfl⟩ := List.getElem_of_mem hx; exact HNO.out j hj (by have := HL.out; omega)))
      go_wp2_with fail
      go_loopw [6] (fun x6 wr => ∃ k : Nat, x6 = .int .i64 k ∧ k ≤ i ∧ ∃ q, w2.drewN q = wr) (fun x6 _ => i - (intOf x6).toNat)
      case atStart => exact ⟨0, rfl, Nat.zero_le _, q', rfl⟩
      case round =>
        obtain ⟨k, rfl, hkn, q2, rfl⟩ := hrel
        by_cases hlt : k < i
        · have hd3 : decide ((k : Int) < (i : Int)) = true := by simp; omega
          have hd4 : decide (k < i) = true := by simp; omega
          have hkl : k < l.length := by rw [HL.out]; exact hlt
          obtain ⟨b, off, rfl, hb', hc'⟩ := HSL.out.cells (fun h => by subst h; simp at hkl)
          have c0 : w2.cell? ⟨b, off + k, none⟩ = some (.int .i64 (l.getD k 0)) := hc' k hkl
          have ho := HORD.out k hkl
          have hXs : ∃ g, X = some ⟨g, 0, none⟩ := by
            rcases HT2.out.now.2 with ⟨_, h0⟩ | ⟨g', cap, cur, hv, _⟩
            · omega
            · exact ⟨g', (Value.slice.inj hv).1⟩
          obtain ⟨g, rfl⟩ := hXs
          obtain ⟨u, hu1, hu2, hu3⟩ := row_there HT2.out.now k hlt
          have hm1 : (smF 4607182418800017408 l i)[k]? = some (.float .f64 (smAt 4607182418800017408 l k)) := by unfold smF; rw [List.getElem?_map, List.getElem?_range hlt]; rfl
          rw [hm1] at hu1
          obtain rfl := Option.some.inj hu1
          generalize smAt 4607182418800017408 l k = sv at *
          generalize l.getD k 0 = x at *
          have c1 : (w2.drewN q2).cell? ⟨b, off + k, none⟩ = some (.int .i64 x) := c0
          have c2 : (w2.drewN q2).cell? ⟨g, k, none⟩ = some (.float .f64 sv) := hu2
          have ho2 : FloatKind.f64.format.order sv (floatOfInt .f64 x) = some .eq := ho
          clear ho hc' hu1 hm1 hu3
          go_wp2_with fail
          go_quiet (fail)
          go_wp2_with fail
          go_roundw
          case rel => exact ⟨k + 1, by simp, by omega, _, rfl⟩
          case measure => simp [intOf]; omega
        · have hd3 : decide ((k : Int) < (i : Int)) = false := by simp; omega
          have hd4 : decide (k < i) = false := by simp; omega
          go_wp2_with fail
          go_ret
          exact ⟨rfl, HCH.out.drewN _⟩
theorem whole_law (v0 : Value) (w : World) (h0 : ArgOk Try.prog w 22 v0) :
    Calls Try.prog 11 #[v0] w fun e w' => e = .returned (.bool true) ∧ Below w.heap.size w w' := by
  obtain ⟨A, l, c, rfl, hw, hs⟩ := ints_sl h0
  have key : Calls Try.prog 11 #[.slice A l.length c] w (TruePost w) := by
    by_cases hn : l.length ≤ 4096
    · exact whole_ok A _ c l w hs (fun x hx => wf_i64 (hw x hx)) rfl hn
    · exact whole_many A _ c w (by omega)
  refine key.mono ?_
  rintro e w' ⟨he, hc⟩
  exact ⟨he, hc.below (fun k h => h.elim) (Nat.le_refl _)⟩
end Go.Proofs.Ytgoimoaeeiobnaa.Ga
