/- OplogScript: every answer of a script on logs is the document's. -/
import Derived.Test.YtpaaghbmlenlfaaOlSt
import Derived.Test.YtpaaghbmlenlfaaOlRe
namespace Go.Proofs.Ytpaaghbmlenlfaa.Ol
open Go.Hp.M7
open Go.RowKit Go.Hp
attribute [local go_sem] min2_lean min_two max2_lean max_two
set_option linter.unusedSimpArgs false
set_option linter.unusedVariables false
set_option maxRecDepth 100000
attribute [local go_sem] run_func_eq
theorem fam_lay {ι : Type} [DecidableEq ι] {F : ι → Hp.Own} {w W : World} {O A : Hp.Own} (i : ι) (h : Turns w W O (Hp.Own.both A (Hp.Own.fam F))) : Turns w W O (Hp.Own.fam (upd F i A)) := by
  have h2 := h.at1 (Turns.famE h.n1 i rfl turn_nil)
  have e : upd F i Hp.Own.emp i = Hp.Own.emp := by simp [upd]
  have h3 := h2.swap.trans (Own.fam_take i e h2.swap.now)
  have e2 : upd (upd F i Hp.Own.emp) i A = upd F i A := by
    funext j
    unfold upd
    split <;> rfl
  rw [e2] at h3
  exact h3
theorem fam_nil {ι : Type} (w : World) : Turns w w Hp.Own.emp (Hp.Own.fam fun _ : ι => Hp.Own.emp) := ⟨Chg.refl _ _, ⟨fun _ => trivial, fun _ _ _ h => h.elim⟩, fun b hb => by obtain ⟨_, h⟩ := hb; exact h.elim⟩
/-- The desk as the law begins: one log. -/
def d0 (g1 b1 gr h : Nat) : DK := ⟨.slice (some ⟨h, 0, none⟩) 1 1, .slice (some ⟨h + 1, 0, none⟩) 1 1, 1, fun _ => g1, fun _ => b1, fun _ => (0, []), fun _ => gr, fun _ => .slice none 0 0, fun _ => (0, [])⟩
theorem d0_ok (m g1 b1 gr h : Nat) (h1 : 1 ≤ m) (h2 : m ≤ 64) : DK.Ok m (d0 g1 b1 gr h) := ⟨Nat.le_refl _, (by show 1 ≤ 4; omega), fun _ _ => ⟨h1, h2, Nat.zero_le _, Int.le_refl _, by show (0 : Int) + ((0 : Nat) : Int) ≤ _; omega⟩, fun _ _ => rfl⟩
theorem desk_new {m g1 b1 gr h : Nat} {w W : World} (t : Turns w W Hp.Own.emp (Hp.Own.both (qO gr m (.slice none 0 0) (0, [])) (Hp.Own.both (pO g1 b1 m (0, [])) (Hp.Own.fam fun _ : DI => Hp.Own.emp)))) (hh : W.heap.size = h) :
    Turns w (((W.alloc (.cells #[Ptr g1] 44)).alloc (.cells #[Ptr gr] 59)).alloc (.cells #[.slice (some ⟨h, 0, none⟩) 1 1, .slice (some ⟨h + 1, 0, none⟩) 1 1, .slice none 0 0, .slice none 0 0, .int .i64 0] 78)) Hp.Own.emp (dO m (h + 1 + 1) 0 KM.empty (d0 g1 b1 gr h)) := by
  have s1 := fam_lay (.r 0) (t.at1 (fam_lay (.t 0) (Turns.refl t.n1)))
  have s2 := fam_lay .ar (s1.pushT (Turns.row_lit W Hp.Own.emp #[Ptr g1] 44 1 1 (by simp [maxLen]) rfl))
  have s4 := fam_lay .br (s2.pushT (Turns.row_lit _ Hp.Own.emp #[Ptr gr] 59 1 1 (by simp [maxLen]) rfl))
  have s5 := unassoc (((s4.push #[.slice (some ⟨h, 0, none⟩) 1 1, .slice (some ⟨h + 1, 0, none⟩) 1 1, .slice none 0 0, .slice none 0 0, .int .i64 0] 78).pushT (KM.start _ 52 51)).flip)
  have z1 : (W.alloc (.cells #[Ptr g1] 44)).heap.size = h + 1 := by simp [hh]
  have z2 : ((W.alloc (.cells #[Ptr g1] 44)).alloc (.cells #[Ptr gr] 59)).heap.size = h + 1 + 1 := by simp [hh]
  rw [hh, z1, z2] at s5
  refine s5.to (congrArg (Hp.Own.both _) (Own.fam_as fun i => ?_))
  cases i with
  | ar => simp [upd, DK.fam, d0]
  | br => simp [upd, DK.fam, d0]
  | t j =>
    by_cases e : j = 0
    · subst e
      simp [upd, DK.fam, d0]
    · simp [upd, DK.fam, d0, e]
  | r j =>
    by_cases e : j = 0
    · subst e
      simp [upd, DK.fam, d0]
    · simp [upd, DK.fam, d0, e]
theorem script_no (room : Int) (A2 : Option Addr) (n2 c2 : Nat) (w : World) (h : room < 1 ∨ 64 < room) :
    Calls Try.prog 11 #[.int .i64 room, .slice A2 n2 c2] w fun e w' => e = .returned (.bool true) ∧ Below w.heap.size w w' := by
  go_enter Try.func11, Try.ntmps11
  go_wp2_with (first
    | (go_at_call 21; refine (new_no room _ h).mono ?_; rintro r w1 ⟨rfl, rfl⟩)
    | (go_at_call 28; refine (rnew_no room _ h).mono ?_; rintro r w1 ⟨rfl, rfl⟩))
  exact bodyPost_ret (v := .bool true) (by simp [results, Try.results11, go_sem]) rfl ⟨rfl, Below.refl _ _⟩
set_option maxHeartbeats 8000000 in
theorem script_yes (room : Nat) (A2 : Option Addr) (n2 c2 : Nat) (acts : List AcE) (w : World) (h : 1 ≤ room) (h2 : room ≤ 64)
    (ha : SlR 12 128 ActR w [.slice A2 n2 c2] acts) (hn2 : acts.length = n2) (hb2 : n2 ≤ 2932031007400) :
    Calls Try.prog 11 #[.int .i64 room, .slice A2 n2 c2] w fun e w' => e = .returned (.bool true) ∧ Below w.heap.size w w' := by
  have HAC := Lib.hid ha
  have HN2 := Lib.hid hn2
  have HPN := Lib.hid (fun W => pNew room W h h2)
  have HRN := Lib.hid (fun W => rNew room W h h2)
  have HF0 := Lib.hid (fam_nil (ι := DI) w)
  clear ha hn2
  go_enter Try.func11, Try.ntmps11
  go_wp2_with (first
    | (go_at_call 21; refine (HPN.out _).mono ?_; rintro r w1 ⟨g1, b1, rfl, ht1⟩; have HT1 := Lib.hid (HF0.out.pushT ht1); clear ht1)
    | (go_at_call 28; refine (HRN.out _).mono ?_; rintro r w2 ⟨gr, rfl, ht2⟩; have HT2 := Lib.hid (HT1.out.pushT ht2); clear ht2)
    | (go_at_call 29; (with_reducible refine (all_any g1 _).mono ?_); rintro r w3 ⟨rfl, rfl⟩; have HT3 := Lib.hid (HT2.out.alloc (.cells #[.pointer (some ⟨g1, 0, none⟩)] 44)))
    | (go_at_call 36; (with_reducible refine (pClone g1 b1 room (0, []) _ (by exact HT3.out.n10)).mono ?_); rintro r w4 ⟨g2, b2, rfl, ht4⟩; have HT4 := Lib.hid (HT3.out.kept (ht4.chg.mono (T := fun _ => False) (fun _ _ h => h.elim))); clear ht4))
  obtain ⟨hh, hhe⟩ : ∃ h, w4.heap.size = h := ⟨_, rfl⟩
  have HD := Lib.hid (desk_new HT4.out hhe)
  rw [hhe]
  obtain ⟨W4, hW4⟩ : ∃ W, W = ((w4.alloc (.cells #[Ptr g1] 44)).alloc (.cells #[Ptr gr] 59)).alloc (.cells #[.slice (some ⟨hh, 0, none⟩) 1 1, .slice (some ⟨hh + 1, 0, none⟩) 1 1, .slice none 0 0, .slice none 0 0, .int .i64 0] 78) := ⟨_, rfl⟩
  rw [← hW4] at HD ⊢
  have HO := Lib.hid (d0_ok room g1 b1 gr hh h h2)
  have HW0 : Hid (KM.empty.Wf 0 KM.empty.M) := Lib.hid KM.Wf.empty
  have HY0 : Hid (Oky KM.empty) := Lib.hid (fun i hi => absurd hi (Nat.not_lt_zero _))
  have HM0 : Hid (2 * KM.empty.M - 0 ≤ 2 * 0) := Lib.hid (Nat.le_refl _)
  obtain ⟨D, hD⟩ : ∃ D, D = hh + 1 + 1 := ⟨_, rfl⟩
  rw [← hD] at HD ⊢
  clear hW4 hhe hD HT1 HT2 HT3 HT4 HF0
  go_loopw [53] (fun x53 wr => ∃ (i f1 : Nat) (k1 : KM) (d1 : DK), x53 = .int .i64 i ∧ i ≤ n2 ∧ DK.Ok room d1 ∧ k1.Wf f1 k1.M ∧ Oky k1 ∧ 2 * k1.M - f1 ≤ 2 * i ∧ Turns w wr Hp.Own.emp (dO room D f1 k1 d1)) (fun x53 _ => n2 - (intOf x53).toNat)
  case atStart => exact ⟨0, 0, KM.empty, d0 g1 b1 gr hh, rfl, Nat.zero_le _, HO.out, HW0.out, HY0.out, HM0.out, HD.out⟩
  case round =>
    obtain ⟨i, f1, k1, d1, rfl, hi, hok, hwf, hoy, hm1, ht⟩ := hrel
    have HK := Lib.hid hwf
    have HY := Lib.hid hoy
    have HO1 := Lib.hid hok
    have HM1 := Lib.hid hm1
    have HT := Lib.hid ht
    clear hok hwf hoy hm1 ht HW0 HY0 HM0 HD HO
    by_cases hlt : i < n2
    · have hd : decide ((i : Int) < (n2 : Int)) = true := by simp; omega
      have hd' : decide (i < n2) = true := by simp; omega
      have hja : i < acts.length := by rw [HN2.out]; exact hlt
      obtain ⟨ba2, oa, hA2, hba, ds, hdl, hR, dc0⟩ := HAC.out.at_ hja
      subst hA2
      obtain ⟨va, hds, hva⟩ := hR
      obtain ⟨A3, c3, hv3, hsl3, hl3⟩ := SlR.form hva
      obtain rfl : va = .slice A3 acts[i].l.length c3 := by simpa using hv3
      have HSL := Lib.hid hsl3
      generalize acts[i] = act0 at *
      obtain ⟨kd, lg, aop, mo, ⟨yc, yn, yk, ym, yt, yu, yo⟩, al⟩ := act0
      have HLL : Hid (al.length * 72 ≤ 140737488351232) := Lib.hid hl3
      have dc : ∀ j u, ds[j]? = some u → wr.cell? ⟨ba2, oa + i * 12 + j, none⟩ = some u := fun j u hu => (HT.out.chg.cell (p := ⟨ba2, oa + i * 12 + j, none⟩) hba (fun h => h)).trans (dc0 j u hu)
      subst hds
      have a0 : wr.cell? ⟨ba2, oa + i * 12, none⟩ = some (.int .i64 kd) := dc 0 _ rfl
      have a1 : wr.cell? ⟨ba2, oa + i * 12 + 1, none⟩ = some (.int .i64 lg) := dc 1 _ rfl
      have a2 : wr.cell? ⟨ba2, oa + i * 12 + 2, none⟩ = some (.int .i64 aop) := dc 2 _ rfl
      have a3 : wr.cell? ⟨ba2, oa + i * 12 + 3, none⟩ = some (.int .i64 mo) := dc 3 _ rfl
      have a4 : wr.cell? ⟨ba2, oa + i * 12 + 4, none⟩ = some (.int .i64 yc) := dc 4 _ rfl
      have a5 : wr.cell? ⟨ba2, oa + i * 12 + 5, none⟩ = some (.int .i64 yn) := dc 5 _ rfl
      have a6 : wr.cell? ⟨ba2, oa + i * 12 + 6, none⟩ = some (.int .i64 yk) := dc 6 _ rfl
      have a7 : wr.cell? ⟨ba2, oa + i * 12 + 7, none⟩ = some (.string ym) := dc 7 _ rfl
      have a8 : wr.cell? ⟨ba2, oa + i * 12 + 8, none⟩ = some (.string yt) := dc 8 _ rfl
      have a9 : wr.cell? ⟨ba2, oa + i * 12 + 9, none⟩ = some (.int .i64 yu) := dc 9 _ rfl
      have a10 : wr.cell? ⟨ba2, oa + i * 12 + 10, none⟩ = some (.int .i64 yo) := dc 10 _ rfl
      have a11 : wr.cell? ⟨ba2, oa + i * 12 + 11, none⟩ = some (.slice A3 al.length c3) := dc 11 _ rfl
      have hi0 : (0 : Int) ≤ (i : Int) := Int.natCast_nonneg _
      have hi1 : (i : Int) < (n2 : Int) := by omega
      have HA1 := Lib.hid (HT.out.push #[.int .i64 kd, .int .i64 lg, .int .i64 aop, .int .i64 mo, .int .i64 yc, .int .i64 yn, .int .i64 yk, .string ym, .string yt, .int .i64 yu, .int .i64 yo, .slice A3 al.length c3] 54)
      obtain ⟨n1, hn1⟩ : ∃ n, d1.n = n := ⟨_, rfl⟩
      have hn11 := HO1.out.n1
      have hn14 := HO1.out.n4
      obtain ⟨bA, cA, bB, cB, hav, hbv, -⟩ := dO_see HT.out.now (j := 0) (by omega)
      have y0 : (wr.alloc (.cells #[.int .i64 kd, .int .i64 lg, .int .i64 aop, .int .i64 mo, .int .i64 yc, .int .i64 yn, .int .i64 yk, .string ym, .string yt, .int .i64 yu, .int .i64 yo, .slice A3 al.length c3] 54)).cell? ⟨D, 0, none⟩ = some (.slice (some ⟨bA, 0, none⟩) n1 cA) := (dO_at HA1.out.n1 (j := 0) (by omega) hav hbv hn1).1
      have HN1 := Lib.hid hn1
      rw [hn1] at hn11 hn14
      obtain ⟨j, hj, ham⟩ := am_nat lg n1 hn11
      have HAM : Hid (∀ W, Calls Try.prog 32 #[.int .i64 lg, .int .i64 n1] W fun e w' => e = .returned (.int .i64 j) ∧ w' = W) := Lib.hid (fun W => by
        have h := among_any lg n1 W hn11 (by omega)
        rw [ham] at h
        exact h)
      have b1' : (wr.alloc (.cells #[.int .i64 kd, .int .i64 lg, .int .i64 aop, .int .i64 mo, .int .i64 yc, .int .i64 yn, .int .i64 yk, .string ym, .string yt, .int .i64 yu, .int .i64 yo, .slice A3 al.length c3] 54)).cell? ⟨wr.heap.size, 1, none⟩ = some (.int .i64 lg) := HA1.out.b0.cell 1
      clear dc dc0 hdl hv3 hl3 hva hsl3 ham hja hav hbv hn1
      go_wp2_with fail
      go_region_held3 (fun w' => w'.cell? ⟨wr.heap.size, 1, none⟩ = some (.int .i64 lg) ∧ w'.cell? ⟨D, 0, none⟩ = some (.slice (some ⟨bA, 0, none⟩) n1 cA)) (go_keep)
        (first | (go_at_call 32; (with_reducible refine (HAM.out _).mono ?_); rintro r w5' ⟨rfl, hw5⟩; have hw5 := hw5.symm; subst hw5))
      have H5 := Lib.hid HA1.out.drew
      obtain ⟨W5, hW5⟩ : ∃ W, W = (wr.alloc (.cells #[.int .i64 kd, .int .i64 lg, .int .i64 aop, .int .i64 mo, .int .i64 yc, .int .i64 yn, .int .i64 yk, .string ym, .string yt, .int .i64 yu, .int .i64 yo, .slice A3 al.length c3] 54)).drew := ⟨_, rfl⟩
      rw [← hW5] at H5 ⊢
      clear hW5 HA1 HT a0 a1 a2 a3 a4 a5 a6 a7 a8 a9 a10 a11 y0 b1' HAM
      have HACT : Hid (Calls Try.prog 37 #[.pointer (some ⟨D, 0, none⟩), .int .i64 j, .int .i64 i, .agg #[.int .i64 kd, .int .i64 lg, .int .i64 aop, .int .i64 mo, .int .i64 yc, .int .i64 yn, .int .i64 yk, .string ym, .string yt, .int .i64 yu, .int .i64 yo, .slice A3 al.length c3]] W5 (actP room D f1 k1 d1 W5)) := Lib.hid (by
        obtain ⟨s1, s2⟩ := sl_far HSL.out H5.out.dropL
        refine act_any room D f1 k1 d1 j i kd lg aop mo yc yn yk ym yt yu yo A3 al al.length c3 W5 H5.out.n1 HO1.out HK.out HY.out (by have := HM1.out; omega) (by rw [HN1.out]; exact hj) s1 rfl (fun b off e h0 => ⟨s2 b off e h0, ?_⟩) HLL.out (by omega)
        obtain ⟨b', off', ha', hb', _⟩ := HSL.out.at_ h0
        rw [e] at ha'
        cases ha'
        exact Nat.lt_of_lt_of_le hb' H5.out.chg.size)
      unfold actP at HACT
      have b0' : W5.cell? ⟨wr.heap.size, 0, none⟩ = some (.int .i64 kd) := H5.out.b0.cell 0
      have b1' : W5.cell? ⟨wr.heap.size, 1, none⟩ = some (.int .i64 lg) := H5.out.b0.cell 1
      have b2' : W5.cell? ⟨wr.heap.size, 2, none⟩ = some (.int .i64 aop) := H5.out.b0.cell 2
      have b3' : W5.cell? ⟨wr.heap.size, 3, none⟩ = some (.int .i64 mo) := H5.out.b0.cell 3
      have b4' : W5.cell? ⟨wr.heap.size, 4, none⟩ = some (.int .i64 yc) := H5.out.b0.cell 4
      have b5' : W5.cell? ⟨wr.heap.size, 5, none⟩ = some (.int .i64 yn) := H5.out.b0.cell 5
      have b6' : W5.cell? ⟨wr.heap.size, 6, none⟩ = some (.int .i64 yk) := H5.out.b0.cell 6
      have b7' : W5.cell? ⟨wr.heap.size, 7, none⟩ = some (.string ym) := H5.out.b0.cell 7
      have b8' : W5.cell? ⟨wr.heap.size, 8, none⟩ = some (.string yt) := H5.out.b0.cell 8
      have b9' : W5.cell? ⟨wr.heap.size, 9, none⟩ = some (.int .i64 yu) := H5.out.b0.cell 9
      have b10' : W5.cell? ⟨wr.heap.size, 10, none⟩ = some (.int .i64 yo) := H5.out.b0.cell 10
      have b11' : W5.cell? ⟨wr.heap.size, 11, none⟩ = some (.slice A3 al.length c3) := H5.out.b0.cell 11
      go_wp2_with (first
        | (go_at_call 37; (with_reducible refine HACT.out.mono ?_); rintro r w6 ⟨rfl, f5, k5, d5, ho5, hn5, hw5, hy5, hm5, ht5⟩; have HO5 := Lib.hid ho5; have HK5 := Lib.hid hw5; have HY5 := Lib.hid hy5; have HM5 := Lib.hid hm5; have HN5 := Lib.hid hn5; have HT6 := Lib.hid (H5.out.dropL.trans ht5); clear ho5 hw5 hy5 hm5 ht5 hn5))
      have HJ : Hid (j < d5.n) := Lib.hid (by have := HN5.out; have := HN1.out; omega)
      obtain ⟨nn, hnn⟩ : ∃ nn, d5.n = nn := ⟨_, rfl⟩
      have HNN := Lib.hid hnn
      obtain ⟨ba, ca, bb, cb, hav, hbv, -⟩ := dO_see HT6.out.now HJ.out
      have HAV := Lib.hid hav
      have HBV := Lib.hid hbv
      have hjn : (j : Int) < (nn : Int) := by have := HJ.out; omega
      have hj0 : (0 : Int) ≤ (j : Int) := Int.natCast_nonneg _
      clear hav hbv hnn b0' b1' b2' b3' b4' b5' b6' b7' b8' b9' b10' b11' HACT H5
      have q := dO_at HT6.out.now HJ.out HAV.out HBV.out HNN.out; have x0 : w6.cell? ⟨D, 0, none⟩ = some (.slice (some ⟨ba, 0, none⟩) nn ca) := q.1; have x1 : w6.cell? ⟨D, 1, none⟩ = some (.slice (some ⟨bb, 0, none⟩) nn cb) := q.2.1; have x2 : w6.cell? ⟨ba, j, none⟩ = some (Ptr (d5.ga j)) := q.2.2.1; have x3 : w6.cell? ⟨bb, j, none⟩ = some (Ptr (d5.gr j)) := q.2.2.2.1; clear q
      go_region_held3 (fun w' => w'.cell? ⟨D, 0, none⟩ = some (.slice (some ⟨ba, 0, none⟩) nn ca) ∧ w'.cell? ⟨D, 1, none⟩ = some (.slice (some ⟨bb, 0, none⟩) nn cb) ∧ w'.cell? ⟨ba, j, none⟩ = some (Ptr (d5.ga j)) ∧ w'.cell? ⟨bb, j, none⟩ = some (Ptr (d5.gr j))) (go_keep) (fail)
      have HT7 := Lib.hid HT6.out.drew
      obtain ⟨W7, hW7⟩ : ∃ W, W = w6.drew := ⟨_, rfl⟩
      rw [← hW7] at HT7 ⊢
      clear hW7 x0 x1 x2 x3 HT6
      have HOK := Lib.hid (HO5.out.ok j HJ.out)
      have HRE := Lib.hid (HO5.out.rel j HJ.out)
      have HP7 := Lib.hid (dO_tb HT7.out.now HJ.out)
      have HQ7 : Hid ((qO (d5.gr j) room (d5.vr j) (d5.l j)).holds W7) := Lib.hid (by rw [HRE.out]; exact dO_ref HT7.out.now HJ.out)
      have HPB := Lib.hid (fun W h => pBase (d5.ga j) (d5.mb j) room (d5.l j) W h)
      have HPO := Lib.hid (fun W h => pOp (d5.ga j) (d5.mb j) room (d5.l j) W h)
      have HPR := Lib.hid (fun W h => pRoom (d5.ga j) (d5.mb j) room (d5.l j) W h)
      have HQO := Lib.hid (fun W h => qOp (d5.gr j) room (d5.vr j) (d5.l j) W h HOK.out)
      have HQR := Lib.hid (fun W h => qRoom (d5.gr j) room (d5.vr j) (d5.l j) W h HOK.out)
      have HC : Hid (Chg (fun _ => False) W7 W7) := Lib.hid (Chg.refl _ _)
      have g1' : W7.cell? ⟨d5.gr j, 1, none⟩ = some (.int .i64 (d5.l j).1) := (rO_cells HQ7.out).2.1
      have hne1 : ((d5.l j).1 != (d5.l j).1) = false := by simp
      have hne2 : ((d5.l j).1 + ((d5.l j).2.length : Int) != (d5.l j).1 + ((d5.l j).2.length : Int)) = false := by simp
      have hne3 : ((room : Int) - ((d5.l j).2.length : Int) != (room : Int) - ((d5.l j).2.length : Int)) = false := by simp
      have HC := Lib.hid (HC.out.drew)
      go_wp2_with fail
      go_region_held3 (fun w' => w'.cell? ⟨d5.gr j, 1, none⟩ = some (.int .i64 (d5.l j).1)) (go_keep)
        (first
          | (go_at_call 24; (with_reducible refine (HPB.out _ (by exact Own.chg HP7.out HC.out (fun _ _ h => h))).mono ?_); rintro r w2' ⟨rfl, rfl⟩)
          | (go_at_call 25; (with_reducible refine (HPO.out _ (by exact Own.chg HP7.out HC.out (fun _ _ h => h))).mono ?_); rintro r w8 ⟨rfl, hc⟩; have HC := Lib.hid (HC.out.trans hc); clear hc; have g1' := (rO_cells (Own.chg HQ7.out HC.out (fun _ _ h => h))).2.1)
          | (go_at_call 38; (with_reducible refine (HQO.out _ (by exact Own.chg HQ7.out HC.out (fun _ _ h => h))).mono ?_); rintro r w8 ⟨rfl, hc⟩; have HC := Lib.hid (HC.out.trans hc); clear hc; have g1' := (rO_cells (Own.chg HQ7.out HC.out (fun _ _ h => h))).2.1)
          | (go_at_call 26; (with_reducible refine (HPR.out _ (by exact Own.chg HP7.out HC.out (fun _ _ h => h))).mono ?_); rintro r w8 ⟨rfl, hc⟩; have HC := Lib.hid (HC.out.trans hc); clear hc; have g1' := (rO_cells (Own.chg HQ7.out HC.out (fun _ _ h => h))).2.1)
          | (go_at_call 39; (with_reducible refine (HQR.out _ (by exact Own.chg HQ7.out HC.out (fun _ _ h => h))).mono ?_); rintro r w8 ⟨rfl, hc⟩; have HC := Lib.hid (HC.out.trans hc); clear hc; have g1' := (rO_cells (Own.chg HQ7.out HC.out (fun _ _ h => h))).2.1))
      have H8 := Lib.hid (HT7.out.kept HC.out)
      have HQ8 : Hid ((qO (d5.gr j) room (d5.vr j) (d5.l j)).holds w8) := Lib.hid (Own.chg HQ7.out HC.out (fun _ _ h => h))
      have HP8 := Lib.hid (dO_tb H8.out.now HJ.out)
      clear g1' HC HP7 HQ7 HPB HPO HPR HQO HQR HT7
      by_cases h300 : i < 300
      · have hd3 : decide ((i : Int) < 300) = true := by simp; omega
        have hd3' : decide (i < 300) = true := by simp; omega
        go_wp2_with (first
          | (go_at_call 40; (with_reducible refine (alike_any (d5.ga j) (d5.mb j) (d5.gr j) room (d5.vr j) (d5.l j) _ HP8.out HQ8.out).mono ?_); rintro r w9 ⟨rfl, hc9⟩; have H9 := Lib.hid (H8.out.kept hc9); clear hc9)
          | (go_at_call 41; (with_reducible refine (holds_any D d5.av d5.bv f5 f5 k5.M k5 _ (dO_bo H9.out.now) HK5.out HY5.out.okk (by have := HM5.out; have := HM1.out; have := HK5.out.lob; omega)).mono ?_); rintro r w10 ⟨rfl, hc10⟩; have H10 := Lib.hid (H9.out.kept hc10); clear hc10))
        go_roundw
        case rel => exact ⟨i + 1, f5, k5, d5, by simp, by omega, HO5.out, HK5.out, HY5.out, by have := HM5.out; have := HM1.out; omega, H10.out⟩
        case measure => simp [intOf]; omega
      · have hd3 : decide ((i : Int) < 300) = false := by simp; omega
        have hd3' : decide (i < 300) = false := by simp; omega
        go_wp2_with fail
        go_roundw
        case rel => exact ⟨i + 1, f5, k5, d5, by simp, by omega, HO5.out, HK5.out, HY5.out, by have := HM5.out; have := HM1.out; omega, H8.out⟩
        case measure => simp [intOf]; omega
    · have hd : decide ((i : Int) < (n2 : Int)) = false := by simp; omega
      have hd' : decide (i < n2) = false := by simp; omega
      obtain rfl : i = n2 := by omega
      go_wp2_with (first
        | (go_at_call 42; (with_reducible refine (stands_any room D f1 k1 d1 _ HT.out.now HO1.out HK.out HY.out (by have := HM1.out; have := HK.out.lob; omega)).mono ?_); rintro r w5 ⟨rfl, k5, hw5, hy5, hm5, ht5⟩; have HK5 := Lib.hid hw5; have HY5 := Lib.hid hy5; have HM5 := Lib.hid hm5; have HT5 := Lib.hid (HT.out.trans ht5); clear hw5 hy5 hm5 ht5)
        | (go_at_call 43; (with_reducible refine (write_any D d1.av d1.bv f1 k5 _ (dO_bo HT5.out.now) HK5.out HY5.out (by have := HM1.out; have := HM5.out; have := HK5.out.lob; omega)).mono ?_); rintro r w6 ⟨rfl, k6, hm6, hw6, hy6, ht6⟩; have HK6 := Lib.hid hw6; have HY6 := Lib.hid hy6; have HM6 := Lib.hid hm6; have HT6 := Lib.hid (HT5.out.trans (dO_bk HT5.out.now ht6)); clear hw6 hy6 hm6 ht6)
        | (go_at_call 42; (with_reducible refine (stands_any room D k6.M k6 d1 _ HT6.out.now HO1.out HK6.out HY6.out (by have := HM1.out; have := HM5.out; have := HM6.out; omega)).mono ?_); rintro r w7 ⟨rfl, k7, hw7, hy7, hm7, ht7⟩; have HK7 := Lib.hid hw7; have HY7 := Lib.hid hy7; have HM7 := Lib.hid hm7; have HT7 := Lib.hid (HT6.out.trans ht7); clear hw7 hy7 hm7 ht7)
        | (go_at_call 43; (with_reducible refine (write_any D d1.av d1.bv k6.M k7 _ (dO_bo HT7.out.now) HK7.out HY7.out (by have := HM1.out; have := HM5.out; have := HM6.out; have := HM7.out; have := HK7.out.lob; omega)).mono ?_); rintro r w8 ⟨rfl, k8, hm8, hw8, hy8, ht8⟩; have HT8 := Lib.hid (HT7.out.trans (dO_bk HT7.out.now ht8)); clear hw8 hy8 hm8 ht8))
      refine bodyPost_ret (v := .bool true) (by simp [results, Try.results11, go_sem]) rfl ⟨rfl, HT8.out.chg.below (fun _ h => h.elim) (Nat.le_refl _)⟩
theorem script_arg (room : Int) (y : Value) (_ : (Lit.int .i64 room).wf = true) (w : World) (hy : ArgOk Try.prog w 43 y) :
    Calls Try.prog 11 #[.int .i64 room, y] w fun e w' => e = .returned (.bool true) ∧ Below w.heap.size w w' := by
  obtain ⟨A2, n2, c2, l2, rfl, hn2, hl2, hb2⟩ := ArgOk.slR (R := ActR) Try.underlying43 Try.cells54 (by omega) Try.bytes54 (fun _ h => ac_open h) hy
  by_cases h : room < 1 ∨ 64 < room
  · exact script_no room A2 n2 c2 w h
  · obtain ⟨r, rfl⟩ : ∃ r : Nat, room = (r : Int) := ⟨room.toNat, by omega⟩
    exact script_yes r A2 n2 c2 l2 w (by omega) (by omega) hl2 hn2 (by omega)
end Go.Proofs.Ytpaaghbmlenlfaa.Ol
