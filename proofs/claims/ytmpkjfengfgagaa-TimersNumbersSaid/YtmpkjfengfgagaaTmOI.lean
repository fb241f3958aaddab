/- Every answer of a script on tables of whole numbers is the document's: TimersNumbers. -/
import Derived.Test.YtmpkjfengfgagaaTmR
import Derived.Test.YtmpkjfengfgagaaTmLI
namespace Go.Proofs.Ytmpkjfengfgagaa.Ti
open Go.RowKit Go.Hp
attribute [local go_sem] min2_lean min_two max2_lean max_two
set_option linter.unusedSimpArgs false
set_option linter.unusedVariables false
set_option maxRecDepth 100000
open Tf
theorem fam_put {ι : Type} [DecidableEq ι] {F : ι → Hp.Own} {w W : World} {O A : Hp.Own} (i : ι) (h : Turns w W O (Hp.Own.both A (Hp.Own.fam F))) : Turns w W O (Hp.Own.fam (upd F i A)) := by
  have h2 := h.at1 (Turns.famE h.n1 i rfl turn_nil)
  have e : upd F i Hp.Own.emp i = Hp.Own.emp := by simp [upd]
  have h3 := h2.swap.trans (Own.fam_take i e h2.swap.now)
  have e2 : upd (upd F i Hp.Own.emp) i A = upd F i A := by
    funext j
    unfold upd
    split <;> rfl
  rw [e2] at h3
  exact h3
theorem fam_nil {ι : Type} (w : World) : Turns w w Hp.Own.emp (Hp.Own.fam fun _ : ι => Hp.Own.emp) := ⟨Chg.refl _ _, ⟨fun _ => trivial, fun _ _ _ h => h.elim⟩, fun b hb => by obtain ⟨_, h⟩ := hb; exact h.elim⟩
/-- The tables as the law begins: two. -/
def d0 (g1 b1 g2 b2 h : Nat) : DK := ⟨.slice (some ⟨h, 0, none⟩) 2 2, .slice (some ⟨h + 1 + 1 + 1, 0, none⟩) 2 2, 2, fun j => if j = 0 then g1 else g2, fun j => if j = 0 then b1 else b2, fun _ => [], fun j => if j = 0 then h + 1 else h + 1 + 1, fun _ => .slice none 0 0, fun _ => []⟩
theorem d0_ok (g1 b1 g2 b2 h : Nat) : (d0 g1 b1 g2 b2 h).Ok := ⟨(by show 1 ≤ 2; omega), (by show 2 ≤ 4; omega), fun _ _ => ok_nil, fun _ _ => Rel.nil, fun _ _ x hx => by cases hx⟩
theorem desk_new {w w1 w2 : World} {g1 b1 g2 b2 h : Nat} (t : Turns w w1 Hp.Own.emp (tbO g1 b1 [])) (t2 : Turns w1 w2 Hp.Own.emp (tbO g2 b2 [])) (hh : w2.heap.size = h) :
    Turns w (((((w2.alloc (.cells #[Ptr g1, Ptr g2] 108)).alloc (.cells #[.slice none 0 0] 98)).alloc (.cells #[.slice none 0 0] 98)).alloc (.cells #[Ptr (h + 1), Ptr (h + 1 + 1)] 95)).alloc (.cells #[.slice (some ⟨h, 0, none⟩) 2 2, .slice (some ⟨h + 1 + 1 + 1, 0, none⟩) 2 2, .slice none 0 0, .slice none 0 0, .int .i64 0] 115)) Hp.Own.emp (dO (h + 1 + 1 + 1 + 1) 0 KT.empty (d0 g1 b1 g2 b2 h)) := by
  have s0 := fam_put (.t 0) ((fam_nil (ι := DI) w).pushT t)
  have s1 := fam_put (.t 1) (s0.pushT t2)
  have s2 := fam_put .ar (s1.pushT (Turns.row_lit w2 Hp.Own.emp #[Ptr g1, Ptr g2] 108 1 2 (by simp [maxLen]) rfl))
  have s3 := fam_put (.r 0) (unassoc (((s2.push #[.slice none 0 0] 98).pushNil 178 3).flip))
  have s33 := fam_put (.r 1) (unassoc (((s3.push #[.slice none 0 0] 98).pushNil 178 3).flip))
  have s4 := fam_put .br (s33.pushT (Turns.row_lit _ Hp.Own.emp #[Ptr (h + 1), Ptr (h + 1 + 1)] 95 1 2 (by simp [maxLen]) rfl))
  have s5 := unassoc (((s4.push #[.slice (some ⟨h, 0, none⟩) 2 2, .slice (some ⟨h + 1 + 1 + 1, 0, none⟩) 2 2, .slice none 0 0, .slice none 0 0, .int .i64 0] 115).pushT (KT.start _ 187 3)).flip)
  have z1 : (w2.alloc (.cells #[Ptr g1, Ptr g2] 108)).heap.size = h + 1 := by simp [hh]
  have z2 : ((w2.alloc (.cells #[Ptr g1, Ptr g2] 108)).alloc (.cells #[.slice none 0 0] 98)).heap.size = h + 1 + 1 := by simp [hh]
  have z3 : (((w2.alloc (.cells #[Ptr g1, Ptr g2] 108)).alloc (.cells #[.slice none 0 0] 98)).alloc (.cells #[.slice none 0 0] 98)).heap.size = h + 1 + 1 + 1 := by simp [hh]
  have z4 : ((((w2.alloc (.cells #[Ptr g1, Ptr g2] 108)).alloc (.cells #[.slice none 0 0] 98)).alloc (.cells #[.slice none 0 0] 98)).alloc (.cells #[Ptr (h + 1), Ptr (h + 1 + 1)] 95)).heap.size = h + 1 + 1 + 1 + 1 := by simp [hh]
  rw [hh, z1, z2, z3, z4] at s5
  refine s5.to (congrArg (Hp.Own.both _) (Own.fam_as fun i => ?_))
  have hr : List.range 2 = [0, 1] := rfl
  cases i with
  | ar => simp [upd, DK.fam, d0, hr]
  | br => simp [upd, DK.fam, d0, hr]
  | t j =>
    by_cases e : j = 0
    · subst e
      simp [upd, DK.fam, d0]
    · by_cases e1 : j = 1
      · subst e1
        simp [upd, DK.fam, d0]
      · have : ¬ j < 2 := by omega
        simp [upd, DK.fam, d0, e, e1, this]
  | r j =>
    by_cases e : j = 0
    · subst e
      simp [upd, DK.fam, d0, rO, tcs]
    · by_cases e1 : j = 1
      · subst e1
        simp [upd, DK.fam, d0, rO, tcs]
      · have : ¬ j < 2 := by omega
        simp [upd, DK.fam, d0, e, e1, this]
set_option maxHeartbeats 4000000 in
theorem script_any (A : Option Addr) (n c : Nat) (acts : List Ts.AcA) (tks : Int) (w : World) (ha : SlR 5 48 Ts.AcR w [.slice A n c] acts) (hn : acts.length = n) (hb : n ≤ 2932031007400) :
    Calls Try.prog 10 #[.slice A n c, .int .i64 tks] w fun e w' => e = .returned (.bool true) ∧ Below w.heap.size w w' := by
  have HA := Lib.hid ha
  have HNL := Lib.hid hn
  have HNW := Lib.hid (fun W => new_any W)
  clear ha hn
  go_enter Try.func10, Try.ntmps10
  go_wp2_with (first
    | (go_at_call 50; (with_reducible refine (HNW.out w).mono ?_); rintro r w1 ⟨g1, b1, rfl, ht1⟩)
    | (go_at_call 50; (with_reducible refine (HNW.out w1).mono ?_); rintro r w2 ⟨g2, b2, rfl, ht2⟩; obtain ⟨hh, hhe⟩ : ∃ h, w2.heap.size = h := ⟨_, rfl⟩; have HD := Lib.hid (desk_new ht1 ht2 hhe); have HO := Lib.hid (d0_ok g1 b1 g2 b2 hh)))
  have HW0 : Hid (KT.empty.Wf 0 KT.empty.M) := Lib.hid KT.Wf.empty
  have HY0 : Hid (Oky KT.empty) := Lib.hid (fun i hi => absurd hi (Nat.not_lt_zero _))
  have HM0 : Hid (2 * KT.empty.M - 0 ≤ 2 * 0) := Lib.hid (Nat.le_refl _)
  go_loopw [38] (fun x38 wr => ∃ (i f1 : Nat) (k1 : KT) (d1 : DK), x38 = .int .i64 i ∧ i ≤ n ∧ d1.Ok ∧ k1.Wf f1 k1.M ∧ Oky k1 ∧ 2 * k1.M - f1 ≤ 2 * i ∧ Turns w wr Hp.Own.emp (dO (hh + 1 + 1 + 1 + 1) f1 k1 d1)) (fun x38 _ => n - (intOf x38).toNat)
  case atStart => exact ⟨0, 0, KT.empty, d0 g1 b1 g2 b2 hh, rfl, Nat.zero_le _, HO.out, HW0.out, HY0.out, HM0.out, HD.out⟩
  case round =>
    obtain ⟨i, f1, k1, d1, rfl, hi, hok, hwf, hoy, hm1, ht⟩ := hrel
    have HK := Lib.hid hwf
    have HY := Lib.hid hoy
    have HO1 := Lib.hid hok
    have HM1 := Lib.hid hm1
    have HT := Lib.hid ht
    clear hok hwf hoy hm1 ht HW0 HY0 HM0 HD HO ht1 ht2 hhe
    by_cases hlt : i < n
    · have hd : decide ((i : Int) < (n : Int)) = true := by simp; omega
      have hd' : decide (i < n) = true := by simp; omega
      have hil : i < acts.length := by rw [HNL.out]; exact hlt
      obtain ⟨b, off, rfl, hbl, ds, hdl, hR, dc0⟩ := HA.out.at_ hil
      obtain ⟨e1, -, -, hnl, -, -⟩ := hR
      subst e1
      have dc : ∀ j u, acts[i].cells[j]? = some u → wr.cell? ⟨b, off + i * 5 + j, none⟩ = some u := fun j u hu => (HT.out.chg.cell (p := ⟨b, off + i * 5 + j, none⟩) hbl (fun h => h)).trans (dc0 j u hu)
      clear dc0
      obtain ⟨⟨kd, at_, nm, num, tk⟩, hx⟩ : ∃ x, acts[i] = x := ⟨_, rfl⟩
      rw [hx] at dc hnl
      have c0 : wr.cell? ⟨b, off + i * 5, none⟩ = some (.int .i64 kd) := dc 0 _ rfl
      have c1 : wr.cell? ⟨b, off + i * 5 + 1, none⟩ = some (.int .i64 at_) := dc 1 _ rfl
      have c2 : wr.cell? ⟨b, off + i * 5 + 2, none⟩ = some (encStr nm) := dc 2 _ rfl
      have c3 : wr.cell? ⟨b, off + i * 5 + 3, none⟩ = some (.int .i64 num) := dc 3 _ rfl
      have c4 : wr.cell? ⟨b, off + i * 5 + 4, none⟩ = some (.int .i64 tk) := dc 4 _ rfl
      have HNM : Hid ((Lit.int .i64 num).wf = true) := Lib.hid hnl
      clear dc hnl hdl hx hil
      have HA1 := Lib.hid (HT.out.kept ((Chg.refl _ _).alloc (.cells #[.int .i64 kd, .int .i64 at_, encStr nm, .int .i64 num, .int .i64 tk] 75)))
      have HAC := Lib.hid (fun W h => act_any (hh + 1 + 1 + 1 + 1) f1 k1 d1 kd at_ num tk nm W h HO1.out HK.out HY.out (by have := HM1.out; omega) HNM.out)
      unfold actP at HAC
      by_cases h300 : i < 300
      · have hd3 : decide ((i : Int) < 300) = true := by simp; omega
        have hd3' : decide (i < 300) = true := by simp; omega
        go_wp2_with (first
          | (go_at_call 51; refine (HAC.out _ HA1.out.now).mono ?_; rintro r w5 ⟨rfl, f5, k5, d5, ho5, hw5, hy5, hm5, ht5⟩; have HO5 := Lib.hid ho5; have HK5 := Lib.hid hw5; have HY5 := Lib.hid hy5; have HM5 := Lib.hid hm5; have HT5 := Lib.hid (HA1.out.trans ht5); clear ho5 hw5 hy5 hm5 ht5)
          | (go_at_call 52; (with_reducible refine (holds_any 115 (hh + 1 + 1 + 1 + 1) d5.av d5.bv f5 f5 k5.M k5 _ (dO_bo HT5.out.now) HK5.out HY5.out.okk (by have := HM5.out; have := HM1.out; have := HK5.out.lob; omega)).mono ?_); rintro r w6 ⟨rfl, rfl⟩))
        go_roundw
        case rel => exact ⟨i + 1, f5, k5, d5, by simp, by omega, HO5.out, HK5.out, HY5.out, by have := HM5.out; have := HM1.out; omega, HT5.out⟩
        case measure => simp [intOf]; omega
      · have hd3 : decide ((i : Int) < 300) = false := by simp; omega
        have hd3' : decide (i < 300) = false := by simp; omega
        go_wp2_with (first
          | (go_at_call 51; refine (HAC.out _ HA1.out.now).mono ?_; rintro r w5 ⟨rfl, f5, k5, d5, ho5, hw5, hy5, hm5, ht5⟩; have HO5 := Lib.hid ho5; have HK5 := Lib.hid hw5; have HY5 := Lib.hid hy5; have HM5 := Lib.hid hm5; have HT5 := Lib.hid (HA1.out.trans ht5); clear ho5 hw5 hy5 hm5 ht5))
        go_roundw
        case rel => exact ⟨i + 1, f5, k5, d5, by simp, by omega, HO5.out, HK5.out, HY5.out, by have := HM5.out; have := HM1.out; omega, HT5.out⟩
        case measure => simp [intOf]; omega
    · have hd : decide ((i : Int) < (n : Int)) = false := by simp; omega
      have hd' : decide (i < n) = false := by simp; omega
      obtain rfl : i = n := by omega
      go_wp2_with (first
        | (go_at_call 53; (with_reducible refine (among_lit tks 1100 1100 rfl _ (by omega) (by omega)).mono ?_); rintro r w5 ⟨R, hR, rfl, rfl⟩))
      go_loopw [62] (fun x62 wr => ∃ (u : Nat) (k2 : KT) (d2 : DK), x62 = .int .i64 u ∧ u ≤ R + 1 ∧ d2.Ok ∧ k2.Wf f1 k2.M ∧ Oky k2 ∧ 2 * k2.M - f1 ≤ 2 * i + 8 * u ∧ Turns w wr Hp.Own.emp (dO (hh + 1 + 1 + 1 + 1) f1 k2 d2)) (fun x62 _ => R + 1 - (intOf x62).toNat)
      case atStart => exact ⟨0, k1, d1, rfl, Nat.zero_le _, HO1.out, HK.out, HY.out, HM1.out, HT.out⟩
      case round =>
        clear HO1 HK HY HM1 HT
        obtain ⟨u, k2, d2, rfl, hu, hok2, hwf2, hoy2, hm2, ht2⟩ := hrel
        have HK := Lib.hid hwf2
        have HY := Lib.hid hoy2
        have HO1 := Lib.hid hok2
        have HM1 := Lib.hid hm2
        have HT := Lib.hid ht2
        clear hok2 hwf2 hoy2 hm2 ht2
        obtain ⟨N, hNN⟩ : ∃ N, d2.n = N := ⟨_, rfl⟩
        obtain ⟨ba, ca, bb, cb, hav, hbv, -⟩ := dO_see HT.out.now (j := 0) HO1.out.n1
        have e5 := dO_at HT.out.now (j := 0) HO1.out.n1 hav hbv hNN
        have a5 : wr.cell? ⟨hh + 1 + 1 + 1 + 1, 0, none⟩ = some (.slice (some ⟨ba, 0, none⟩) N ca) := e5.1
        have hN4 : N ≤ 4 := by rw [← hNN]; exact HO1.out.n4
        have HNN := Lib.hid hNN
        clear hav hbv e5 hNN
        by_cases hlu : u < R + 1
        · have hdu : decide ((u : Int) < 1 + (R : Int)) = true := by simp; omega
          have hdu' : decide ((u : Int) < (R : Int) + 1) = true := by simp; omega
          have hdu2 : (u : Int) < 1 + (R : Int) := by omega
          go_wp2_with fail
          go_loopw [69] (fun x69 wr => ∃ (j : Nat) (k3 : KT) (d3 : DK), x69 = .int .i64 j ∧ j ≤ N ∧ d3.Ok ∧ d3.n = N ∧ k3.Wf f1 k3.M ∧ Oky k3 ∧ 2 * k3.M - f1 ≤ 2 * i + 8 * u + 2 * j ∧ Turns w wr Hp.Own.emp (dO (hh + 1 + 1 + 1 + 1) f1 k3 d3)) (fun x69 _ => N - (intOf x69).toNat)
          case atStart => exact ⟨0, k2, d2, rfl, Nat.zero_le _, HO1.out, HNN.out, HK.out, HY.out, HM1.out, HT.out⟩
          case round =>
            clear HO1 HK HY HM1 HT HNN a5
            obtain ⟨j, k3, d3, rfl, hj, hok3, hn3, hwf3, hoy3, hm3, ht3⟩ := hrel
            have HK := Lib.hid hwf3
            have HY := Lib.hid hoy3
            have HO1 := Lib.hid hok3
            have HM1 := Lib.hid hm3
            have HT := Lib.hid ht3
            have HNN := Lib.hid hn3
            clear hok3 hwf3 hoy3 hm3 ht3 hn3
            by_cases hlj : j < N
            · have hdj : decide ((j : Int) < (N : Int)) = true := by simp; omega
              have hdj' : decide (j < N) = true := by simp; omega
              go_wp2_with (first
                | (go_at_call 54; (with_reducible refine (tick_d (hh + 1 + 1 + 1 + 1) f1 k3 d3 j _ HT.out.now HO1.out (by rw [HNN.out]; exact hlj) HK.out HY.out (by have := HM1.out; have := HK.out.lob; omega)).mono ?_); rintro r w6 ⟨rfl, k6, d6, ho6, hn6, hw6, hy6, hm6, ht6⟩; have HO6 := Lib.hid ho6; have HN6 := Lib.hid hn6; have HK6 := Lib.hid hw6; have HY6 := Lib.hid hy6; have HM6 := Lib.hid hm6; have HT6 := Lib.hid (HT.out.trans ht6); clear ho6 hn6 hw6 hy6 hm6 ht6))
              go_roundw
              case rel => exact ⟨j + 1, k6, d6, by simp, by omega, HO6.out, HN6.out.trans HNN.out, HK6.out, HY6.out, by have := HM6.out; have := HM1.out; omega, HT6.out⟩
              case measure => simp [intOf]; omega
            · have hdj : decide ((j : Int) < (N : Int)) = false := by simp; omega
              have hdj' : decide (j < N) = false := by simp; omega
              go_wp2_with fail
              go_roundw
              case rel => exact ⟨u + 1, k3, d3, by simp, by omega, HO1.out, HK.out, HY.out, by have := HM1.out; omega, HT.out⟩
              case measure => simp [intOf]; omega
        · have hdu : decide ((u : Int) < 1 + (R : Int)) = false := by simp; omega
          have hdu' : decide ((u : Int) < (R : Int) + 1) = false := by simp; omega
          have hdu2 : ¬ (u : Int) < 1 + (R : Int) := by omega
          go_wp2_with fail
          go_loopw [83] (fun x83 wr => ∃ (j : Nat) (k3 : KT) (d3 : DK), x83 = .int .i64 j ∧ j ≤ N ∧ d3.Ok ∧ d3.n = N ∧ k3.Wf f1 k3.M ∧ Oky k3 ∧ 2 * k3.M - f1 ≤ 2 * i + 8 * u + 2 * j ∧ Turns w wr Hp.Own.emp (dO (hh + 1 + 1 + 1 + 1) f1 k3 d3)) (fun x83 _ => N - (intOf x83).toNat)
          case atStart => exact ⟨0, k2, d2, rfl, Nat.zero_le _, HO1.out, HNN.out, HK.out, HY.out, HM1.out, HT.out⟩
          case round =>
            clear HO1 HK HY HM1 HT HNN a5
            obtain ⟨j, k3, d3, rfl, hj, hok3, hn3, hwf3, hoy3, hm3, ht3⟩ := hrel
            have HK := Lib.hid hwf3
            have HY := Lib.hid hoy3
            have HO1 := Lib.hid hok3
            have HM1 := Lib.hid hm3
            have HT := Lib.hid ht3
            have HNN := Lib.hid hn3
            clear hok3 hwf3 hoy3 hm3 ht3 hn3
            by_cases hlj : j < N
            · have hdj : decide ((j : Int) < (N : Int)) = true := by simp; omega
              have hdj' : decide (j < N) = true := by simp; omega
              go_wp2_with (first
                | (go_at_call 55; (with_reducible refine (armed_d (hh + 1 + 1 + 1 + 1) f1 k3 d3 j _ HT.out.now HO1.out (by rw [HNN.out]; exact hlj) HK.out HY.out (by have := HM1.out; have := HK.out.lob; omega)).mono ?_); rintro r w6 ⟨rfl, k6, d6, ho6, hn6, hw6, hy6, hm6, ht6⟩; have HO6 := Lib.hid ho6; have HN6 := Lib.hid hn6; have HK6 := Lib.hid hw6; have HY6 := Lib.hid hy6; have HM6 := Lib.hid hm6; have HT6 := Lib.hid (HT.out.trans ht6); clear ho6 hn6 hw6 hy6 hm6 ht6))
              go_roundw
              case rel => exact ⟨j + 1, k6, d6, by simp, by omega, HO6.out, HN6.out.trans HNN.out, HK6.out, HY6.out, by have := HM6.out; have := HM1.out; omega, HT6.out⟩
              case measure => simp [intOf]; omega
            · have hdj : decide ((j : Int) < (N : Int)) = false := by simp; omega
              have hdj' : decide (j < N) = false := by simp; omega
              go_wp2_with (first
                | (go_at_call 56; (with_reducible refine (write_any 115 (hh + 1 + 1 + 1 + 1) d3.av d3.bv f1 k3 _ (dO_bo HT.out.now) HK.out HY.out (by have := HM1.out; omega)).mono ?_); rintro r w8 ⟨rfl, k8, hm8, hw8, hy8, ht8⟩; have HT8 := Lib.hid (HT.out.trans (dO_bk HT.out.now ht8)); clear hw8 hy8 hm8 ht8))
              refine bodyPost_ret (v := .bool true) (by simp [results, Try.results10, go_sem, *]) rfl ⟨rfl, HT8.out.chg.below (fun _ h => h.elim) (Nat.le_refl _)⟩
theorem numbers_arg (v0 : Value) (a1 : Int) (h1 : (Lit.int .i64 a1).wf = true) (w : World) (h0 : ArgOk Try.prog w 70 v0) :
    Calls Try.prog 10 #[v0, .int .i64 a1] w fun e w' => e = .returned (.bool true) ∧ Below w.heap.size w w' := by
  obtain ⟨A, n, c, l, rfl, hn, hl, hb⟩ := ArgOk.slR (R := Ts.AcR) Try.underlying70 Ts.Try.cells_act3 (by omega) Ts.Try.bytes_act3 (fun _ h => Ts.act_open h) h0
  exact script_any A n c l a1 w hl hn (by omega)
end Go.Proofs.Ytmpkjfengfgagaa.Ti
