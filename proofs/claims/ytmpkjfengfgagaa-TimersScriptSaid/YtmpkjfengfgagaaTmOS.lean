/- Every answer of a script on tables of texts is the document's: TimersScript. -/
import Derived.Test.YtmpkjfengfgagaaTmR
import Derived.Test.YtmpkjfengfgagaaTmLS
import Derived.Test.YtmpkjfengfgagaaTmNS
namespace Go.Proofs.Ytmpkjfengfgagaa.Ts
open Go.RowKit Go.Hp
attribute [local go_sem] min2_lean min_two max2_lean max_two
set_option linter.unusedSimpArgs false
set_option linter.unusedVariables false
set_option maxRecDepth 100000
open Tf
theorem fam_put {ι : Type} [DecidableEq ι] {F : ι → Hp.Own} {w W : World} {O A : Hp.Own} (i : ι) (h : Turns w W O (Hp.Own.both A (Hp.Own.fam F))) : Turns w W O (Hp.Own.fam (upd F i A)) := by
  have h2 := h.at1 (Turns.famE h.n1 i rfl turn_nil)
  have e : upd F i Hp.Own.emp i = Hp.Own.emp := by simp [upd]
  have h3 := h2.swap.trans (Own.fam_take i e h2.swap.now)
  have e2 : upd (upd F i Hp.Own.emp) i A = upd F i A := by
    funext j
    unfold upd
    split <;> rfl
  rw [e2] at h3
  exact h3
theorem fam_nil {ι : Type} (w : World) : Turns w w Hp.Own.emp (Hp.Own.fam fun _ : ι => Hp.Own.emp) := ⟨Chg.refl _ _, ⟨fun _ => trivial, fun _ _ _ h => h.elim⟩, fun b hb => by obtain ⟨_, h⟩ := hb; exact h.elim⟩
/-- The desk as the law begins: one table. -/
def d0 (g1 b1 h : Nat) : DK := ⟨.slice (some ⟨h, 0, none⟩) 1 1, .slice (some ⟨h + 1 + 1, 0, none⟩) 1 1, 1, fun _ => g1, fun _ => b1, fun _ => [], fun _ => h + 1, fun _ => .slice none 0 0, fun _ => []⟩
theorem d0_ok (g1 b1 h : Nat) : (d0 g1 b1 h).Ok := ⟨Nat.le_refl _, (by show 1 ≤ 4; omega), fun _ _ => ok_nil, fun _ _ => Rel.nil, fun _ _ x hx => by cases hx⟩
theorem desk_new {w w1 : World} {g1 b1 h : Nat} (t : Turns w w1 Hp.Own.emp (tbO g1 b1 [])) (hh : w1.heap.size = h) :
    Turns w ((((w1.alloc (.cells #[Ptr g1] 71)).alloc (.cells #[.slice none 0 0] 98)).alloc (.cells #[Ptr (h + 1)] 95)).alloc (.cells #[.slice (some ⟨h, 0, none⟩) 1 1, .slice (some ⟨h + 1 + 1, 0, none⟩) 1 1, .slice none 0 0, .slice none 0 0, .int .i64 0] 104)) Hp.Own.emp (dO (h + 1 + 1 + 1) 0 KT.empty (d0 g1 b1 h)) := by
  have s1 := fam_put (.t 0) ((fam_nil (ι := DI) w).pushT t)
  have s2 := fam_put .ar (s1.pushT (Turns.row_lit w1 Hp.Own.emp #[Ptr g1] 71 1 1 (by simp [maxLen]) rfl))
  have s3 := fam_put (.r 0) (unassoc (((s2.push #[.slice none 0 0] 98).pushNil 178 3).flip))
  have s4 := fam_put .br (s3.pushT (Turns.row_lit _ Hp.Own.emp #[Ptr (h + 1)] 95 1 1 (by simp [maxLen]) rfl))
  have s5 := unassoc (((s4.push #[.slice (some ⟨h, 0, none⟩) 1 1, .slice (some ⟨h + 1 + 1, 0, none⟩) 1 1, .slice none 0 0, .slice none 0 0, .int .i64 0] 104).pushT (KT.start _ 79 9)).flip)
  have z1 : (w1.alloc (.cells #[Ptr g1] 71)).heap.size = h + 1 := by simp [hh]
  have z2 : ((w1.alloc (.cells #[Ptr g1] 71)).alloc (.cells #[.slice none 0 0] 98)).heap.size = h + 1 + 1 := by simp [hh]
  have z3 : (((w1.alloc (.cells #[Ptr g1] 71)).alloc (.cells #[.slice none 0 0] 98)).alloc (.cells #[Ptr (h + 1)] 95)).heap.size = h + 1 + 1 + 1 := by simp [hh]
  rw [hh, z1, z2, z3] at s5
  refine s5.to (congrArg (Hp.Own.both _) (Own.fam_as fun i => ?_))
  cases i with
  | ar => simp [upd, DK.fam, d0]
  | br => simp [upd, DK.fam, d0]
  | t j =>
    by_cases e : j = 0
    · subst e
      simp [upd, DK.fam, d0]
    · simp [upd, DK.fam, d0, e]
  | r j =>
    by_cases e : j = 0
    · subst e
      simp [upd, DK.fam, d0, rO, tcs]
    · simp [upd, DK.fam, d0, e]
theorem arm_one (q : List UInt8) : armE [] q 1 = 0 ∧ armL [] q 1 = [(q, 1)] ∧ cur [(q, 1)] [] = [] ∧ told [(q, 1)] [] = [q] := by
  have h : armE [] q 1 = 0 := by unfold armE; rw [if_neg (by omega), if_neg (by simp)]
  refine ⟨h, by unfold armL; rw [if_pos h]; rfl, by simp [cur], by simp [told]⟩
set_option maxHeartbeats 4000000 in
theorem script_any (A : Option Addr) (n c : Nat) (acts : List AcA) (w : World) (ha : SlR 5 48 AcR w [.slice A n c] acts) (hn : acts.length = n) (hb : n ≤ 2932031007400) :
    Calls Try.prog 9 #[.slice A n c] w fun e w' => e = .returned (.bool true) ∧ Below w.heap.size w w' := by
  have HA := Lib.hid ha
  have HNL := Lib.hid hn
  have HNW := Lib.hid (fun W => new_any W)
  clear ha hn
  go_enter Try.func9, Try.ntmps9
  go_wp2_with fail
  (with_reducible refine (HNW.out _).mono ?_)
  rintro r w1 ⟨g1, b1, rfl, ht1⟩
  obtain ⟨hh, hhe⟩ : ∃ h, w1.heap.size = h := ⟨_, rfl⟩
  have HD := Lib.hid (desk_new ht1 hhe)
  have HO := Lib.hid (d0_ok g1 b1 hh)
  have HJ : Hid (0 < (d0 g1 b1 hh).n) := Lib.hid (Nat.zero_lt_one)
  obtain ⟨q1, q2, q3, q4⟩ := arm_one [113]
  have Q1 := Lib.hid q1
  have Q2 := Lib.hid q2
  have Q3 := Lib.hid q3
  have Q4 := Lib.hid q4
  clear q1 q2 q3 q4
  go_wp2_with fail
  obtain ⟨W4, hW4⟩ : ∃ W, W = (((w1.alloc (.cells #[Ptr g1] 71)).alloc (.cells #[.slice none 0 0] 98)).alloc (.cells #[Ptr (hh + 1)] 95)).alloc (.cells #[.slice (some ⟨hh, 0, none⟩) 1 1, .slice (some ⟨hh + 1 + 1, 0, none⟩) 1 1, .slice none 0 0, .slice none 0 0, .int .i64 0] 104) := ⟨_, rfl⟩
  rw [← hW4] at HD ⊢
  clear hW4 ht1 hhe
  refine (arm_any g1 b1 [] [113] 1 _ (dO_tb HD.out.now HJ.out) (by simp)).mono ?_
  rintro r w5 ⟨rfl, ht5⟩
  rw [Q1.out]
  rw [Q2.out] at ht5
  have HT5 := Lib.hid (HD.out.trans (dO_t HD.out.now HJ.out ht5))
  have e5 := (dO_at HT5.out.now (j := 0) HJ.out (ba := hh) (ca := 1) (bb := hh + 1 + 1) (cb := 1) rfl rfl (n := 1) rfl)
  have a5 : w5.cell? ⟨hh + 1 + 1 + 1, 0, none⟩ = some (.slice (some ⟨hh, 0, none⟩) 1 1) := e5.1
  have b5 : w5.cell? ⟨hh, 0, none⟩ = some (Ptr g1) := e5.2.2.1
  clear ht5 e5
  go_wp2_with fail
  refine (tick_any g1 b1 [([113], 1)] _ (dO_tb HT5.out.now HJ.out) (by simp [mkeys]) (by simp) (by intro x hx; obtain rfl := List.mem_singleton.1 hx; decide)).mono ?_
  rintro r w6 ⟨o, A6, c6, hp, rfl, ht6⟩
  rw [Q4.out] at hp
  have hol : o.length = 1 := hp.length_eq
  rw [hol] at ht6
  simp only [hol]
  rw [Q3.out] at ht6
  have HT6 : Hid (Turns w w6 Hp.Own.emp (dO (hh + 1 + 1 + 1) 0 KT.empty (d0 g1 b1 hh))) := Lib.hid (by
    have h := (HT5.out.trans (dO_tout HT5.out.now HJ.out ht6)).dropL
    have e : ((d0 g1 b1 hh).setT 0 [([113], 1)]).setT 0 [] = d0 g1 b1 hh := by
      unfold d0
      simp only [DK.setT]
      congr 1
      funext i
      split
      · rfl
      · rename_i h; simp [h]
    rw [e] at h
    exact h)
  clear ht6 hp hol a5 b5 HT5 HD Q1 Q2 Q3 Q4 HJ
  have HW0 : Hid (KT.empty.Wf 0 KT.empty.M) := Lib.hid KT.Wf.empty
  have HY0 : Hid (Oky KT.empty) := Lib.hid (fun i hi => absurd hi (Nat.not_lt_zero _))
  have HM0 : Hid (2 * KT.empty.M - 0 ≤ 2 * 0) := Lib.hid (Nat.le_refl _)
  go_wp2_with fail
  obtain ⟨D, hD⟩ : ∃ D, hh + 1 + 1 + 1 = D := ⟨_, rfl⟩
  rw [hD] at HT6
  go_loopw [43] (fun x43 wr => ∃ (i f1 : Nat) (k1 : KT) (d1 : DK), x43 = .int .i64 i ∧ i ≤ n ∧ d1.Ok ∧ k1.Wf f1 k1.M ∧ Oky k1 ∧ 2 * k1.M - f1 ≤ 2 * i ∧ Turns w wr Hp.Own.emp (dO D f1 k1 d1)) (fun x43 _ => n - (intOf x43).toNat)
  case atStart => exact ⟨0, 0, KT.empty, d0 g1 b1 hh, rfl, Nat.zero_le _, HO.out, HW0.out, HY0.out, HM0.out, HT6.out⟩
  case round =>
    obtain ⟨i, f1, k1, d1, rfl, hi, hok, hwf, hoy, hm1, ht⟩ := hrel
    have HK := Lib.hid hwf
    have HY := Lib.hid hoy
    have HO1 := Lib.hid hok
    have HM1 := Lib.hid hm1
    have HT := Lib.hid ht
    clear hok hwf hoy hm1 ht HW0 HY0 HM0 HT6 HO
    by_cases hlt : i < n
    · have hd : decide ((i : Int) < (n : Int)) = true := by simp; omega
      have hd' : decide (i < n) = true := by simp; omega
      have hil : i < acts.length := by rw [HNL.out]; exact hlt
      obtain ⟨b, off, rfl, hbl, ds, hdl, hR, dc0⟩ := HA.out.at_ hil
      obtain ⟨e1, -, -, -, -, hnl⟩ := hR
      subst e1
      have dc : ∀ j u, acts[i].cells[j]? = some u → wr.cell? ⟨b, off + i * 5 + j, none⟩ = some u := fun j u hu => (HT.out.chg.cell (p := ⟨b, off + i * 5 + j, none⟩) hbl (fun h => h)).trans (dc0 j u hu)
      clear dc0
      obtain ⟨⟨kd, at_, nm, num, tk⟩, hx⟩ : ∃ x, acts[i] = x := ⟨_, rfl⟩
      rw [hx] at dc hnl
      have c0 : wr.cell? ⟨b, off + i * 5, none⟩ = some (.int .i64 kd) := dc 0 _ rfl
      have c1 : wr.cell? ⟨b, off + i * 5 + 1, none⟩ = some (.int .i64 at_) := dc 1 _ rfl
      have c2 : wr.cell? ⟨b, off + i * 5 + 2, none⟩ = some (encStr nm) := dc 2 _ rfl
      have c3 : wr.cell? ⟨b, off + i * 5 + 3, none⟩ = some (.int .i64 num) := dc 3 _ rfl
      have c4 : wr.cell? ⟨b, off + i * 5 + 4, none⟩ = some (.int .i64 tk) := dc 4 _ rfl
      have HNM : Hid (nm.length ≤ maxLen) := Lib.hid (by
        have h : nm.length ≤ 140737488351232 := hnl
        simp only [maxLen]
        omega)
      clear dc hnl hdl hx hil
      have HA1 := Lib.hid (HT.out.kept ((Chg.refl _ _).alloc (.cells #[.int .i64 kd, .int .i64 at_, encStr nm, .int .i64 num, .int .i64 tk] 75)))
      have HAC := Lib.hid (fun W h => act_any D f1 k1 d1 kd at_ num tk nm W h HO1.out HK.out HY.out (by have := HM1.out; omega) HNM.out)
      unfold actP at HAC
      by_cases h300 : i < 300
      · have hd3 : decide ((i : Int) < 300) = true := by simp; omega
        have hd3' : decide (i < 300) = true := by simp; omega
        go_wp2_with (first
          | (go_at_call 46; subst hD; refine (HAC.out _ HA1.out.now).mono ?_; rintro r w5 ⟨rfl, f5, k5, d5, ho5, hw5, hy5, hm5, ht5⟩; have HO5 := Lib.hid ho5; have HK5 := Lib.hid hw5; have HY5 := Lib.hid hy5; have HM5 := Lib.hid hm5; have HT5 := Lib.hid (HA1.out.trans ht5); clear ho5 hw5 hy5 hm5 ht5)
          | (go_at_call 47; (with_reducible refine (holds_any 104 (hh + 1 + 1 + 1) d5.av d5.bv f5 f5 k5.M k5 _ (dO_bo HT5.out.now) HK5.out HY5.out.okk (by have := HM5.out; have := HM1.out; have := HK5.out.lob; omega)).mono ?_); rintro r w6 ⟨rfl, rfl⟩))
        go_roundw
        case rel => exact ⟨i + 1, f5, k5, d5, by simp, by omega, HO5.out, HK5.out, HY5.out, by have := HM5.out; have := HM1.out; omega, HT5.out⟩
        case measure => simp [intOf]; omega
      · have hd3 : decide ((i : Int) < 300) = false := by simp; omega
        have hd3' : decide (i < 300) = false := by simp; omega
        go_wp2_with (first
          | (go_at_call 46; subst hD; refine (HAC.out _ HA1.out.now).mono ?_; rintro r w5 ⟨rfl, f5, k5, d5, ho5, hw5, hy5, hm5, ht5⟩; have HO5 := Lib.hid ho5; have HK5 := Lib.hid hw5; have HY5 := Lib.hid hy5; have HM5 := Lib.hid hm5; have HT5 := Lib.hid (HA1.out.trans ht5); clear ho5 hw5 hy5 hm5 ht5))
        go_roundw
        case rel => exact ⟨i + 1, f5, k5, d5, by simp, by omega, HO5.out, HK5.out, HY5.out, by have := HM5.out; have := HM1.out; omega, HT5.out⟩
        case measure => simp [intOf]; omega
    · have hd : decide ((i : Int) < (n : Int)) = false := by simp; omega
      have hd' : decide (i < n) = false := by simp; omega
      obtain rfl : i = n := by omega
      subst hD
      go_wp2_with (first
        | (go_at_call 48; (with_reducible refine (stands_any (hh + 1 + 1 + 1) f1 k1 d1 _ HT.out.now HO1.out HK.out HY.out (by have := HM1.out; have := HK.out.lob; omega)).mono ?_); rintro r w5 ⟨rfl, k5, hw5, hy5, hm5, ht5⟩; have HK5 := Lib.hid hw5; have HY5 := Lib.hid hy5; have HM5 := Lib.hid hm5; have HT5 := Lib.hid (HT.out.trans ht5); clear hw5 hy5 hm5 ht5)
        | (go_at_call 49; (with_reducible refine (write_any 104 (hh + 1 + 1 + 1) d1.av d1.bv f1 k5 _ (dO_bo HT5.out.now) HK5.out HY5.out (by have := HM1.out; have := HM5.out; have := HK5.out.lob; omega)).mono ?_); rintro r w6 ⟨rfl, k6, hm6, hw6, hy6, ht6⟩; have HK6 := Lib.hid hw6; have HY6 := Lib.hid hy6; have HM6 := Lib.hid hm6; have HT6 := Lib.hid (HT5.out.trans (dO_bk HT5.out.now ht6)); clear hw6 hy6 hm6 ht6)
        | (go_at_call 48; (with_reducible refine (stands_any (hh + 1 + 1 + 1) k6.M k6 d1 _ HT6.out.now HO1.out HK6.out HY6.out (by have := HM1.out; have := HM5.out; have := HM6.out; omega)).mono ?_); rintro r w7 ⟨rfl, k7, hw7, hy7, hm7, ht7⟩; have HK7 := Lib.hid hw7; have HY7 := Lib.hid hy7; have HM7 := Lib.hid hm7; have HT7 := Lib.hid (HT6.out.trans ht7); clear hw7 hy7 hm7 ht7)
        | (go_at_call 49; (with_reducible refine (write_any 104 (hh + 1 + 1 + 1) d1.av d1.bv k6.M k7 _ (dO_bo HT7.out.now) HK7.out HY7.out (by have := HM1.out; have := HM5.out; have := HM6.out; have := HM7.out; have := HK7.out.lob; omega)).mono ?_); rintro r w8 ⟨rfl, k8, hm8, hw8, hy8, ht8⟩; have HT8 := Lib.hid (HT7.out.trans (dO_bk HT7.out.now ht8)); clear hw8 hy8 hm8 ht8))
      refine bodyPost_ret (v := .bool true) (by simp [results, Try.results9, go_sem, *]) rfl ⟨rfl, HT8.out.chg.below (fun _ h => h.elim) (Nat.le_refl _)⟩
theorem script_arg (v0 : Value) (w : World) (h0 : ArgOk Try.prog w 70 v0) :
    Calls Try.prog 9 #[v0] w fun e w' => e = .returned (.bool true) ∧ Below w.heap.size w w' := by
  obtain ⟨A, n, c, l, rfl, hn, hl, hb⟩ := ArgOk.slR (R := AcR) Try.underlying70 Try.cells_act3 (by omega) Try.bytes_act3 (fun _ h => act_open h) h0
  exact script_any A n c l w hl hn (by omega)
end Go.Proofs.Ytmpkjfengfgagaa.Ts
