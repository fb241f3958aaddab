/- SheetsCarry: a Snap that is told what was written since has what the book has. -/
import Derived.Test.YtmpkjfengfgagaaBkN
import Derived.Test.YtmpkjfengfgagaaBkW1
namespace Go.Proofs.Ytmpkjfengfgagaa.Bk
open Go.RowKit Go.Hp
attribute [local go_sem] min2_lean min_two max2_lean max_two
set_option linter.unusedSimpArgs false
set_option linter.unusedVariables false
set_option maxRecDepth 100000
attribute [local go_sem] run_seq_eq
theorem carry_no (n : Int) (A1 : Option Addr) (n1 c1 : Nat) (A2 : Option Addr) (n2 c2 : Nat) (w : World) (h : n < 1 ∨ 64 < n) :
    Calls Try.prog 5 #[.int .i64 n, .slice A1 n1 c1, .slice A2 n2 c2] w fun e w' => e = .returned (.bool true) ∧ Below w.heap.size w w' := by
  have HN := Lib.hid (new_no n w h)
  by_cases h1 : n < 1
  · have d1 : decide (n < 1) = true := by simpa using h1
    go_enter Try.func5, Try.ntmps5
    go_wp2_with (first
      | (go_at_call 12; (with_reducible refine HN.out.mono ?_); rintro r w3 ⟨rfl, hq⟩; have hq := hq.symm; subst hq))
    go_ret
    exact ⟨rfl, Below.refl _ _⟩
  · have d1 : decide (n < 1) = false := by simpa using h1
    have d2 : decide (64 < n) = true := by simp; omega
    go_enter Try.func5, Try.ntmps5
    go_wp2_with (first
      | (go_at_call 12; (with_reducible refine HN.out.mono ?_); rintro r w3 ⟨rfl, hq⟩; have hq := hq.symm; subst hq))
    go_ret
    exact ⟨rfl, Below.refl _ _⟩
/-- Two books of one pool. -/
structure Two (w wr : World) (g gs n : Nat) (B S : Ab) (P : Pool) (b s : Bk) : Prop where
  hg : b.g = g
  hs : s.g = gs
  bn : B.n = n
  sn : S.n = n
  ib : Bk.Is P b B
  is : Bk.Is P s S
  t : Turns w wr Hp.Own.emp (Hp.Own.both P.own (Hp.Own.both b.own s.own))
section
variable {w wr : World} {g gs n : Nat} {B S : Ab} {P : Pool} {b s : Bk}
theorem Two.hb (h : Two w wr g gs n B S P b s) : (Hp.Own.both P.own b.own).holds wr := h.t.assoc.n0
theorem Two.hsb (h : Two w wr g gs n B S P b s) : (Hp.Own.both P.own s.own).holds wr := (h.t.at1 (Turns.refl h.t.n1).swap).assoc.n0
theorem Two.alloc (h : Two w wr g gs n B S P b s) (o : Obj) : Two w (wr.alloc o) g gs n B S P b s := ⟨h.hg, h.hs, h.bn, h.sn, h.ib, h.is, h.t.alloc o⟩
theorem Two.stepB (h : Two w wr g gs n B S P b s) {W : World} {P' : Pool} {b' : Bk} {B' : Ab} (hg : b'.g = b.g) (hn : B'.n = B.n) (hp : P.le P') (hi : Bk.Is P' b' B') (t : Turns wr W (Hp.Own.both P.own b.own) (Hp.Own.both P'.own b'.own)) : Two w W g gs n B' S P' b' s :=
  ⟨hg.trans h.hg, h.hs, hn.trans h.bn, h.sn, hi, h.is.mono hp, h.t.at01 t⟩
theorem Two.stepS (h : Two w wr g gs n B S P b s) {W : World} {P' : Pool} {s' : Bk} {S' : Ab} (hg : s'.g = s.g) (hn : S'.n = S.n) (hp : P.le P') (hi : Bk.Is P' s' S') (t : Turns wr W (Hp.Own.both P.own s.own) (Hp.Own.both P'.own s'.own)) : Two w W g gs n B S' P' b s' := by
  have t1 := (h.t.at1 (Turns.refl h.t.n1).swap).at01 t
  exact ⟨h.hg, hg.trans h.hs, h.bn, hn.trans h.sn, h.ib.mono hp, hi, t1.at1 (Turns.refl t1.n1).swap⟩
theorem Two.lastB (h : Two w wr g gs n B S P b s) : Calls Try.prog 27 #[.pointer (some ⟨g, 0, none⟩)] wr fun e w' => e = .returned (.int .i64 B.last) ∧ w' = wr := by
  have := last_any b.g (b.tp 1) wr (bk_tp (k := 1) h.hb.2.1.1 (by omega))
  rwa [h.ib.top, h.hg] at this
theorem Two.lastS (h : Two w wr g gs n B S P b s) : Calls Try.prog 27 #[.pointer (some ⟨gs, 0, none⟩)] wr fun e w' => e = .returned (.int .i64 S.last) ∧ w' = wr := by
  have := last_any s.g (s.tp 1) wr (bk_tp (k := 1) h.hsb.2.1.1 (by omega))
  rwa [h.is.top, h.hs] at this
theorem Two.keep (h : Two w wr g gs n B S P b s) {W : World} (t : Turns wr W Hp.Own.emp Hp.Own.emp) : Two w W g gs n B S P b s := ⟨h.hg, h.hs, h.bn, h.sn, h.ib, h.is, h.t.trans ⟨t.chg.mono fun _ _ h => h.elim, Own.chg h.t.now t.chg (fun _ _ h => h), fun _ h => Or.inl h⟩⟩
end
set_option maxHeartbeats 8000000 in
theorem carry_yes (n : Nat) (A1 : Option Addr) (n1 c1 : Nat) (l1 : List AcS) (A2 : Option Addr) (n2 c2 : Nat) (l2 : List AcS) (w : World) (h1 : 1 ≤ n) (h2 : n ≤ 64) (hf : SlR 6 80 ActR w [.slice A1 n1 c1] l1) (hn1 : l1.length = n1) (hb1 : n1 ≤ 1759218604440) (hf2 : SlR 6 80 ActR w [.slice A2 n2 c2] l2) (hn2 : l2.length = n2) (hb2 : n2 ≤ 1759218604440) :
    Calls Try.prog 5 #[.int .i64 n, .slice A1 n1 c1, .slice A2 n2 c2] w fun e w' => e = .returned (.bool true) ∧ Below w.heap.size w w' := by
  have HF := Lib.hid hf
  have HN := Lib.hid hn1
  have HF2 := Lib.hid hf2
  have HN2 := Lib.hid hn2
  have HNW := Lib.hid (new_is n w h1 h2)
  have kc := fun (w : World) (C : Array Value) (n c : Nat) => Lib.run_convert_bytes_const (P := Try.prog) w 32 5 C n c Try.underlying32 Try.underlying5
  have d1 : decide ((n : Int) < 1) = false := by simp; omega
  have d2 : decide ((64 : Int) < (n : Int)) = false := by simp; omega
  have d3 : decide (n < 1) = false := by simp; omega
  have d4 : decide (64 < n) = false := by simp; omega
  clear hf hn1 hf2 hn2
  go_enter Try.func5, Try.ntmps5
  go_wp2_with (first
    | (go_at_call 12; (with_reducible refine HNW.out.mono ?_); rintro r w3 ⟨b, rfl, hi, ht⟩; have HI := Lib.hid hi; have HT := Lib.hid ht; clear hi ht; have HT2 := Lib.hid ((HT.out.alloc (.cells #[.pointer (some ⟨b.g, 0, none⟩)] 23)).alloc (.cells #[.int .i64 0] 3)); obtain ⟨g, hg⟩ : ∃ g, g = b.g := ⟨_, rfl⟩; have HG := Lib.hid hg; rw [← hg] at HT2 ⊢; clear hg)
    | (go_at_call 13; (with_reducible refine (since_any g 0 _).mono ?_); rintro r w4 ⟨rfl, rfl⟩; obtain ⟨W4, hW4⟩ : ∃ W, W = (w3.alloc (.cells #[.pointer (some ⟨g, 0, none⟩)] 23)).alloc (.cells #[.int .i64 0] 3) := ⟨_, rfl⟩; rw [← hW4] at HT2 ⊢; clear hW4; have HP := Lib.hid (put_zero HG.out HI.out HT2.out.now))
    | (go_at_call 15; (with_reducible refine HP.out.mono ?_); rintro r w5 ⟨rfl, P', b', hg', hi', ht'⟩; have HI5 := Lib.hid hi'; have HG5 := Lib.hid hg'; have HT5 := Lib.hid ((HT2.out.alloc _).trans ht'); clear hi' hg' ht'))
  have hrel0 : Hid (∃ (P : Pool) (b : Bk) (A : Ab), b.g = g ∧ A.n = n ∧ Bk.Is P b A ∧ Turns w w5 Hp.Own.emp (Hp.Own.both P.own b.own)) := Lib.hid ⟨P', b', _, HG5.out, by rw [Ab.n_put], HI5.out, HT5.out⟩
  clear HP HT HT2 HI HG HI5 HG5 HT5
  go_loopw [57] (fun x57 wr => ∃ (i : Nat) (P : Pool) (b : Bk) (A : Ab), x57 = .int .i64 i ∧ i ≤ n1 ∧ b.g = g ∧ A.n = n ∧ Bk.Is P b A ∧ Turns w wr Hp.Own.emp (Hp.Own.both P.own b.own)) (fun x57 _ => n1 - (intOf x57).toNat)
  case atStart =>
    obtain ⟨P, b, A, h1, h2, h3, h4⟩ := hrel0.out
    exact ⟨0, P, b, A, rfl, Nat.zero_le _, h1, h2, h3, h4⟩
  case round =>
    clear hrel0
    obtain ⟨i, P, b, A, rfl, hi, hg, hAn, his, ht⟩ := hrel
    have HT := Lib.hid ht
    have HI := Lib.hid his
    have HG := Lib.hid hg
    have HAN := Lib.hid hAn
    clear ht his hg hAn
    by_cases hlt : i < n1
    · have hd : decide ((i : Int) < (n1 : Int)) = true := by simp; omega
      have hd' : decide (i < n1) = true := by simpa using hlt
      have hi0 : (0 : Int) ≤ (i : Int) := Int.natCast_nonneg _
      have hi1 : (i : Int) < (n1 : Int) := by omega
      have hwi : IntKind.i64.wrap ((i : Int) + 1) = (i : Int) + 1 := IntWalk.i64_in _ (by omega)
      obtain ⟨ab, aoff, hA1, hbl, ds, -, ⟨v1, v2, hds, hv1, hv2⟩, hc⟩ := SlR.at_ HF.out (show i < l1.length by rw [HN.out]; exact hlt)
      have hA1' := hA1
      subst hA1'
      obtain ⟨x, hx⟩ : ∃ x, x = l1[i]'(by rw [HN.out]; exact hlt) := ⟨_, rfl⟩
      rw [← hx] at hds hv1 hv2
      obtain ⟨xk, xb, xn, xa, xd, xl⟩ := x
      obtain ⟨Ad, cd, rfl, hby, hd48⟩ := SlR.byt hv1
      obtain ⟨Al, cl, hv2e, -, -⟩ := SlR.form hv2
      have hv2' : v2 = .slice Al xl.length cl := by simpa using hv2e
      subst hv2'
      have hcc : ∀ j u, ds[j]? = some u → wr.cell? ⟨ab, aoff + i * 6 + j, none⟩ = some u := fun j u hu => ((kept_chg HT.out).cell (p := ⟨ab, aoff + i * 6 + j, none⟩) hbl (fun h => h)).trans (hc j u hu)
      rw [hds] at hcc
      have z0 : wr.cell? ⟨ab, aoff + i * 6, none⟩ = some (.int .i64 xk) := hcc 0 _ rfl
      have z1 : wr.cell? ⟨ab, aoff + i * 6 + 1, none⟩ = some (.int .i64 xb) := hcc 1 _ rfl
      have z2 : wr.cell? ⟨ab, aoff + i * 6 + 2, none⟩ = some (.int .i64 xn) := hcc 2 _ rfl
      have z3 : wr.cell? ⟨ab, aoff + i * 6 + 3, none⟩ = some (.int .i64 xa) := hcc 3 _ rfl
      have z4 : wr.cell? ⟨ab, aoff + i * 6 + 4, none⟩ = some (.slice Ad xd.length cd) := hcc 4 _ rfl
      have z5 : wr.cell? ⟨ab, aoff + i * 6 + 5, none⟩ = some (.slice Al xl.length cl) := hcc 5 _ rfl
      have HPU := Lib.hid (fun (o : Obj) => put_any HI.out (HT.out.alloc o).now xn xa Ad xd.length cd xd (byt_keep hby ((kept_chg HT.out).alloc o)) (fun w' hc' => byt_keep hby (far_chg (HT.out.alloc o) hc')) rfl)
      rw [HG.out] at HPU
      clear hc hcc hds hv1 hv2 hby hx hA1 hv2e
      go_wp2_with (first
        | (go_at_call 15; refine (HPU.out _).mono ?_; rintro r w6 ⟨rfl, P6, b6, hg6, -, hi6, ht6⟩; have HI6 := Lib.hid hi6; have HG6 := Lib.hid hg6; have HT6 := Lib.hid ((HT.out.alloc _).trans ht6); clear hi6 hg6 ht6))
      go_roundw
      case rel => exact ⟨i + 1, P6, b6, _, by simp, hlt, HG6.out, by rw [Ab.n_put, HAN.out], HI6.out, HT6.out⟩
      case measure => simp [intOf]; omega
    · have hd : decide ((i : Int) < (n1 : Int)) = false := by simp; omega
      have hd' : decide (i < n1) = false := by simp; omega
      have HSN := Lib.hid (snap_any HT.out.now)
      rw [HG.out] at HSN
      go_wp2_with (first
        | (go_at_call 20; (with_reducible refine HSN.out.mono ?_); rintro r w6 ⟨gs, rfl, ht6⟩; have H2 : Hid (∃ (P' : Pool) (b' s' : Bk), Two w w6 g gs n A A P' b' s') := Lib.hid ⟨P.share b, b.lent, { b.lent with g := gs }, HG.out, rfl, HAN.out, HAN.out, HI.out.lent, ⟨⟨HI.out.lent.ok.n1, HI.out.lent.ok.n64, HI.out.lent.ok.wd, HI.out.lent.ok.sh, HI.out.lent.ok.dt, HI.out.lent.ok.tr, HI.out.lent.ok.a0, HI.out.lent.ok.ln, HI.out.lent.ok.hi, HI.out.lent.ok.one⟩, HI.out.n, HI.out.at_⟩, HT.out.trans ht6⟩; clear ht6; obtain ⟨P6, b6, s6, hT6⟩ := H2.out; have HT6 := Lib.hid hT6; clear H2 hT6; have HLS := Lib.hid HT6.out.lastS; obtain ⟨m, hm⟩ : ∃ m, m = A.last := ⟨_, rfl⟩; rw [← hm] at HLS; have HM := Lib.hid hm; clear hm)
        | (go_at_call 27; (with_reducible refine HLS.out.mono ?_); rintro r w1' ⟨rfl, hq⟩; have hq := hq.symm; subst hq))
      have h0m : 0 ≤ m := by rw [HM.out]; exact mostF_nonneg _ _ _
      have hmA : Hid (∀ u, u < A.n → A.at_ u ≤ m) := Lib.hid (fun u hu => by
        have h9 := (mostF_le (f := A.at_) (from_ := 0) (v := m) h0m A.n).1 (by rw [HM.out]; exact Int.le_refl _) u hu
        rwa [Nat.zero_add] at h9)
      clear HSN HT HI HG HF HN hi hb1 hlt hd hd'
      go_loopw [78] (fun x78 wr => ∃ (i : Nat) (P : Pool) (b s : Bk) (B : Ab), x78 = .int .i64 i ∧ i ≤ n2 ∧ Two w wr g gs n B A P b s ∧ Since A B m) (fun x78 _ => n2 - (intOf x78).toNat)
      case atStart => exact ⟨0, P6, b6, s6, A, rfl, Nat.zero_le _, HT6.out, Since.rfl' _ _⟩
      case round =>
        clear HT6 HLS
        obtain ⟨i, P, b, s, B, rfl, hi, htwo, hsin⟩ := hrel
        have H2 := Lib.hid htwo
        have HSI := Lib.hid hsin
        have HT := Lib.hid htwo.t
        clear htwo hsin
        by_cases hlt : i < n2
        · have hd : decide ((i : Int) < (n2 : Int)) = true := by simp; omega
          have hd' : decide (i < n2) = true := by simpa using hlt
          have hi0 : (0 : Int) ≤ (i : Int) := Int.natCast_nonneg _
          have hi1 : (i : Int) < (n2 : Int) := by omega
          have hwi : IntKind.i64.wrap ((i : Int) + 1) = (i : Int) + 1 := IntWalk.i64_in _ (by omega)
          obtain ⟨ab, aoff, hA1, hbl, ds, -, ⟨v1, v2, hds, hv1, hv2⟩, hc⟩ := SlR.at_ HF2.out (show i < l2.length by rw [HN2.out]; exact hlt)
          have hA1' := hA1
          subst hA1'
          obtain ⟨x, hx⟩ : ∃ x, x = l2[i]'(by rw [HN2.out]; exact hlt) := ⟨_, rfl⟩
          rw [← hx] at hds hv1 hv2
          obtain ⟨xk, xb, xn, xa, xd, xl⟩ := x
          obtain ⟨Ad, cd, rfl, hby, hd48⟩ := SlR.byt hv1
          obtain ⟨Al, cl, hv2e, -, -⟩ := SlR.form hv2
          have hv2' : v2 = .slice Al xl.length cl := by simpa using hv2e
          subst hv2'
          have hcc : ∀ j u, ds[j]? = some u → wr.cell? ⟨ab, aoff + i * 6 + j, none⟩ = some u := fun j u hu => ((kept_chg HT.out).cell (p := ⟨ab, aoff + i * 6 + j, none⟩) hbl (fun h => h)).trans (hc j u hu)
          rw [hds] at hcc
          have z0 : wr.cell? ⟨ab, aoff + i * 6, none⟩ = some (.int .i64 xk) := hcc 0 _ rfl
          have z1 : wr.cell? ⟨ab, aoff + i * 6 + 1, none⟩ = some (.int .i64 xb) := hcc 1 _ rfl
          have z2 : wr.cell? ⟨ab, aoff + i * 6 + 2, none⟩ = some (.int .i64 xn) := hcc 2 _ rfl
          have z3 : wr.cell? ⟨ab, aoff + i * 6 + 3, none⟩ = some (.int .i64 xa) := hcc 3 _ rfl
          have z4 : wr.cell? ⟨ab, aoff + i * 6 + 4, none⟩ = some (.slice Ad xd.length cd) := hcc 4 _ rfl
          have z5 : wr.cell? ⟨ab, aoff + i * 6 + 5, none⟩ = some (.slice Al xl.length cl) := hcc 5 _ rfl
          have HPU := Lib.hid (fun (o : Obj) => put_any H2.out.ib (H2.out.alloc o).hb xn xa Ad xd.length cd xd (byt_keep hby ((kept_chg HT.out).alloc o)) (fun w' hc' => byt_keep hby (far_chg ((H2.out.alloc o).t.assoc) (hc'.mono fun _ _ h => Or.inl h))) rfl)
          rw [H2.out.hg] at HPU
          clear hc hcc hds hv1 hv2 hby hx hA1 hv2e
          by_cases hxm : m < xa
          · have q1 : decide (m < xa) = true := by simpa using hxm
            go_wp2_with (first
              | (go_at_call 15; refine (HPU.out _).mono ?_; rintro r w6 ⟨rfl, P6, b6, hg6, hle6, hi6, ht6⟩; have HT6 := Lib.hid ((H2.out.alloc _).stepB (hg6.trans H2.out.hg.symm) (Ab.n_put _ _ _ _) hle6 hi6 ht6); clear hi6 hg6 ht6))
            go_roundw
            case rel => exact ⟨i + 1, P6, b6, s, _, by simp, hlt, HT6.out, HSI.out.put _ _ _ hxm⟩
            case measure => simp [intOf]; omega
          · have q1 : decide (m < xa) = false := by simpa using hxm
            go_wp2_with fail
            go_roundw
            case rel => exact ⟨i + 1, P, b, s, B, by simp, hlt, H2.out.alloc _, HSI.out⟩
            case measure => simp [intOf]; omega
        · have hd : decide ((i : Int) < (n2 : Int)) = false := by simp; omega
          have hd' : decide (i < n2) = false := by simp; omega
          have HL1 := Lib.hid H2.out.lastS
          have hmx : max m 0 = m := by omega
          have HGI := Lib.hid (given_any H2.out.ib H2.out.hb m (-1))
          rw [H2.out.hg, hmx] at HGI
          have hlaw := carry_law (S := A) (A := B) (m := m) HSI.out hmA.out h0m (fun u => by have h9 := (H2.out.ib.ok.a0 u).2; rwa [H2.out.ib.at_] at h9) H2.out.ib.ok.ln
          obtain ⟨C, hC⟩ : ∃ C, C = A.apply (B.told (newer B.at_ m 0 B.n)) := ⟨_, rfl⟩
          have HC : Hid (∀ u, u < n → C.at_ u = B.at_ u ∧ C.db u = B.db u) := Lib.hid (fun u hu => by
            rw [hC]
            unfold Ab.apply
            rw [if_pos hlaw.1]
            exact hlaw.2 u (by rw [H2.out.bn]; exact hu))
          have HCN : Hid (C.n = n) := Lib.hid (by rw [hC, Ab.apply_n]; exact H2.out.sn)
          have HAP : Hid (∀ (w6 : World) (P6 : Pool) (b6 : Bk) (xs : List (Nat × Value)) (Av : Option Addr) (k cv : Nat), b6.g = g → Bk.Is P6 b6 B → P.le P6 → xs.length = k → k ≤ 64 → xs.map (·.1) = newer B.at_ m 0 B.n →
              Turns wr w6 (Hp.Own.both P.own b.own) (Hp.Own.both (Hp.Own.row 46 3 (.slice Av k cv) xs.length (flS B.at_ xs)) (Hp.Own.both (Hp.Own.fam (dtF B.db xs)) (Hp.Own.both P6.own b6.own))) →
              Calls Try.prog 28 #[.pointer (some ⟨gs, 0, none⟩), .slice Av k cv] w6 fun e w' => e = .returned (.int .i64 0) ∧ ∃ P7 s7, Two w w' g gs n B C P7 b6 s7) := Lib.hid (fun w6 P6 b6 xs Av k cv hg6 hi6 hle6 hk hk64 hxs ht6 => by
            have t1 := H2.out.t.assoc.at0 ht6
            have t2 : Turns w w6 Hp.Own.emp (Hp.Own.both (Hp.Own.row 46 3 (.slice Av k cv) xs.length (flS B.at_ xs)) (Hp.Own.both (Hp.Own.fam (dtF B.db xs)) (Hp.Own.both P6.own (Hp.Own.both b6.own s.own)))) := by
              have t3 := t1.unassoc
              have t4 := t3.at1 (Turns.refl t3.n1).unassoc
              exact t4.at2 (Turns.refl t4.n11).unassoc
            have h6 : Two w w6 g gs n B A P6 b6 s := ⟨hg6, H2.out.hs, H2.out.bn, H2.out.sn, hi6, H2.out.is.mono hle6, t2.dropL.dropL⟩
            have hl := ShL.of_given hk t2
            rw [hxs] at hl
            have hlen : (B.told (newer B.at_ m 0 B.n)).length = k := by rw [← hk, ← hxs]; simp [Ab.told]
            rw [← h6.hs]
            refine (apply_any h6.is h6.hsb Av k cv _ _ hlen (by omega) (fun w' hc => hl w' (hc.mono fun b _ hf => hf.elim Or.inl (fun hf => Or.inr (Or.inr hf))))).mono ?_
            rintro e w' ⟨rfl, P7, s7, hg7, hle7, hi7, ht7⟩
            refine ⟨by rw [hlaw.1], P7, s7, ?_⟩
            rw [hC, h6.hs]
            exact h6.stepS hg7 (Ab.apply_n _ _) hle7 hi7 ht7)
          have HLL : Hid (C.last = B.last) := Lib.hid (by
            unfold Ab.last
            rw [HCN.out, H2.out.bn]
            exact mostF_congr n (fun i hi => by rw [Nat.zero_add]; exact (HC.out i hi).1))
          have HNL : Hid (newer C.at_ m 0 C.n = newer B.at_ m 0 B.n) := Lib.hid (by
            rw [HCN.out, H2.out.bn]
            exact newer_congr fun i hi => (HC.out i hi).1)
          have HN64 : Hid ((newer B.at_ m 0 B.n).length ≤ 64) := Lib.hid (by
            rw [H2.out.bn]
            unfold newer
            exact Nat.le_trans (List.length_filter_le _ _) (by simp; exact h2))
          obtain ⟨tl, htl⟩ : ∃ t, t = B.last := ⟨_, rfl⟩
          have HTL := Lib.hid htl
          rw [← HM.out] at HL1
          clear hlaw hC htl h0m hmx HF2 HN2 hb2 hi
          go_wp2_with (first
            | (go_at_call 27; (with_reducible refine HL1.out.mono ?_); rintro r w1' ⟨rfl, hq⟩; have hq := hq.symm; subst hq)
            | (go_at_call 16; (with_reducible refine HGI.out.mono ?_); rintro r w6 ⟨xs, V, P6, b6, rfl, hxs, hg6, hle6, hi6, ht6⟩; obtain ⟨Av, cv, hV⟩ := row_slice ht6.n0; have hxs2 : xs.map (·.1) = newer B.at_ m 0 B.n := hxs; obtain ⟨k, hk⟩ : ∃ k, k = xs.length := ⟨_, rfl⟩; rw [← hk] at hV; subst hV; have HA7 := Lib.hid (HAP.out w6 P6 b6 xs Av k cv hg6 hi6 hle6 hk.symm (by rw [hk, ← List.length_map (f := fun x : Nat × Value => x.1), hxs2]; exact HN64.out) hxs2 ht6); clear hxs hxs2 hg6 hle6 hi6 ht6 hk)
            | (go_at_call 28; (with_reducible refine HA7.out.mono ?_); rintro r w7 ⟨rfl, P7, s7, h7⟩; have H7 := Lib.hid h7; have HL7 := Lib.hid h7.lastS; rw [HLL.out, ← HTL.out] at HL7; have HL8 := Lib.hid h7.lastB; rw [← HTL.out] at HL8; clear h7)
            | (go_at_call 27; (with_reducible refine HL7.out.mono ?_); rintro r w1' ⟨rfl, hq⟩; have hq := hq.symm; subst hq)
            | (go_at_call 27; (with_reducible refine HL8.out.mono ?_); rintro r w1' ⟨rfl, hq⟩; have hq := hq.symm; subst hq))
          clear HL7 HL8 HA7 HLL HTL HAP HGI HL1 H2 HSI HT hlt hd hd'
          go_loopw [115] (fun x115 wr => ∃ (i : Nat) (P : Pool) (b s : Bk), x115 = .int .i64 i ∧ i ≤ n ∧ Two w wr g gs n B C P b s) (fun x115 _ => n - (intOf x115).toNat)
          case atStart => exact ⟨0, P7, b6, s7, rfl, Nat.zero_le _, H7.out⟩
          case round =>
            clear H7
            obtain ⟨i, P, b, s, rfl, hi, htwo⟩ := hrel
            have H2 := Lib.hid htwo
            clear htwo
            by_cases hlt : i < n
            · have hd : decide ((i : Int) < (n : Int)) = true := by simp; omega
              have hd' : decide (i < n) = true := by simpa using hlt
              have hwi : IntKind.i64.wrap ((i : Int) + 1) = (i : Int) + 1 := IntWalk.i64_in _ (by omega)
              have q0 : 0 ≤ (i : Int) ∧ (i : Int) < (n : Int) := by omega
              have a1 : B.getA i = B.at_ i := by unfold Ab.getA; rw [if_pos (by rw [H2.out.bn]; exact q0), Int.toNat_natCast]
              have a2 : B.getE i = 0 := by unfold Ab.getE; rw [if_pos (by rw [H2.out.bn]; exact q0)]
              have a3 : B.getD i = B.db i := by unfold Ab.getD; rw [if_pos (by rw [H2.out.bn]; exact q0), Int.toNat_natCast]
              have b1 : C.getA i = B.at_ i := by unfold Ab.getA; rw [if_pos (by rw [HCN.out]; exact q0), Int.toNat_natCast, (HC.out i hlt).1]
              have b2 : C.getE i = 0 := by unfold Ab.getE; rw [if_pos (by rw [HCN.out]; exact q0)]
              have b3 : C.getD i = B.db i := by unfold Ab.getD; rw [if_pos (by rw [HCN.out]; exact q0), Int.toNat_natCast, (HC.out i hlt).2]
              have HG1 := Lib.hid (get_any H2.out.ib H2.out.hb (i : Int))
              rw [a1, a2, a3, H2.out.hg] at HG1
              obtain ⟨ld, hld⟩ : ∃ l, l = B.db i := ⟨_, rfl⟩
              obtain ⟨la, hla⟩ : ∃ l, l = B.at_ i := ⟨_, rfl⟩
              have hlen : ld.length ≤ 2304 := by rw [hld]; exact H2.out.ib.ok.ln i
              rw [← hld, ← hla] at HG1
              have HG2 : Hid (∀ W X, Turns wr W Hp.Own.emp X → Calls Try.prog 29 #[.pointer (some ⟨gs, 0, none⟩), .int .i64 i] W fun e w' => ∃ (X : Option Addr) (n c : Nat), e = .returned (.tuple #[.slice X n c, .int .i64 la, .int .i64 0]) ∧ ld.length = n ∧ Turns W w' Hp.Own.emp (Hp.Own.row 5 1 (.slice X n c) n (ld.map bv))) := Lib.hid (fun W X t => by
                have h := get_any H2.out.is (Own.chg H2.out.hsb (t.chg.mono fun _ _ h => h.elim) (fun _ _ h => h) : (Hp.Own.both P.own s.own).holds W) (i : Int)
                rw [b1, b2, b3, H2.out.hs, ← hld, ← hla] at h
                exact h)
              clear a1 a2 a3 b1 b2 b3 q0 hld hla
              go_wp2_with (first
                | (go_at_call 29; (with_reducible refine HG1.out.mono ?_); rintro r w8 ⟨X8, n8, c8, rfl, hn8, t8⟩; have T8 := Lib.hid t8; have N8 := Lib.hid hn8; have hg2 := HG2.out w8 _ t8; clear t8 hn8)
                | (go_at_call 29; (with_reducible refine hg2.mono ?_); rintro r w9 ⟨X9, n9, c9, rfl, hn9, t9⟩; have T9 := Lib.hid (T8.out.pushT t9); have N9 := Lib.hid hn9; clear t9 hn9)
                | (go_at_call 30; refine (same_any X8 X9 n8 n9 c8 c9 ld ld _ (by have h := Src.of_own T9.out.n1; rw [← N8.out] at h ⊢; exact h) (by have h := Src.of_own T9.out.n0; rw [← N9.out] at h ⊢; exact h) N8.out N9.out (by rw [← N8.out]; omega)).mono ?_; rintro r w10 ⟨rfl, q, rfl⟩; have hdd : decide (ld = ld) = true := by simp))
              exact ⟨⟨i + 1, P, b, s, by simp, hlt, H2.out.keep (T9.out.emptied.drewN q)⟩, by simp [intOf]; omega⟩
            · have hd : decide ((i : Int) < (n : Int)) = false := by simp; omega
              have hd' : decide (i < n) = false := by simp; omega
              have hmx : max m 0 = m := by have := mostF_nonneg A.at_ 0 A.n; have h9 : m = mostF A.at_ 0 A.n := HM.out; omega
              have HGS := Lib.hid (given_any H2.out.is H2.out.hsb m (-1))
              rw [H2.out.hs, hmx, HNL.out] at HGS
              have HGB : Hid (∀ W P' s', Two w W g gs n B C P' b s' → Calls Try.prog 16 #[.pointer (some ⟨g, 0, none⟩), .int .i64 m, .int .i64 (-1)] W fun e w' => ∃ (k cv : Nat) (Av : Option Addr), e = .returned (.slice Av k cv) ∧ k = (newer B.at_ m 0 B.n).length ∧ Turns W w' (Hp.Own.both P'.own b.own) Hp.Own.emp) := Lib.hid (fun W P' s' h => by
                have h1 := given_any h.ib h.hb m (-1)
                rw [h.hg, hmx] at h1
                refine h1.mono ?_
                rintro e w' ⟨xs, V, P6, b6, rfl, hxs, -, -, -, ht6⟩
                obtain ⟨Av, cv, hV⟩ := row_slice ht6.n0
                have h9 := congrArg List.length hxs
                rw [List.length_map] at h9
                exact ⟨xs.length, cv, Av, by rw [hV], h9, ht6.emptied⟩)
              obtain ⟨kk, hkk⟩ : ∃ k, k = (newer B.at_ m 0 B.n).length := ⟨_, rfl⟩
              have HKK := Lib.hid hkk
              rw [← hkk] at HGB
              clear hmx hkk
              go_wp2_with (first
                | (go_at_call 16; (with_reducible refine HGS.out.mono ?_); rintro r w8 ⟨xs, V, P8, s8, rfl, hxs, hg8, hle8, hi8, ht8⟩; obtain ⟨Av, cv, hV⟩ := row_slice ht8.n0; have hxl : xs.length = kk := (by have h9 := congrArg List.length hxs; rw [List.length_map] at h9; rw [h9]; exact HKK.out.symm); rw [hxl] at hV; subst hV; have H8 := Lib.hid (H2.out.stepS (hg8.trans H2.out.hs.symm) rfl hle8 hi8 ht8.dropL.dropL); have hgb := HGB.out w8 P8 s8 H8.out; clear hxs hg8 hle8 hi8 ht8)
                | (go_at_call 16; (with_reducible refine hgb.mono ?_); rintro r w9 ⟨k9, cv9, Av9, rfl, rfl, ht9⟩; have T9 := Lib.hid (H8.out.t.assoc.at0 ht9); clear ht9))
              go_ret
              exact ⟨rfl, T9.out.chg.below (fun _ h => h.elim) (Nat.le_refl _)⟩
end Go.Proofs.Ytmpkjfengfgagaa.Bk
