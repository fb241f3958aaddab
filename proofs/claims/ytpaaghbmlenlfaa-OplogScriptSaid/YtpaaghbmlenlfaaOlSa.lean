/- The law's kept lists of entries: same, mark, holds. -/
import Derived.Test.YtpaaghbmlenlfaaOlRc
import Derived.Test.YtpaaghbmlenlfaaKm7
import Derived.Test.YtpaaghbmlenlfaaKw
import Derived.Deep.QuietTactic
import Derived.Deep.RegionLaw
import Derived.ProofKit
import Derived.Lib.Hide
namespace Go.Proofs.Ytpaaghbmlenlfaa.Ol
open Go.Hp.M7
open Go.RowKit Go.Hp
attribute [local go_sem] min2_lean min_two max2_lean max_two
set_option linter.unusedSimpArgs false
set_option linter.unusedVariables false
set_option maxRecDepth 100000
theorem same_any (A B : Option Addr) (n c d : Nat) (l : List En) (w : World) (ha : EnS w A l) (hb : EnS w B l) (hn : l.length = n) (hN : n ≤ 1152921504606846976) :
    Calls Try.prog 53 #[.slice A n c, .slice B n d] w fun e w' => e = .returned (.bool true) ∧ Chg (fun _ => False) w w' := by
  have HA := Lib.hid ha
  have HB := Lib.hid hb
  have HN := Lib.hid hn
  have hne : ((n : Int) != (n : Int)) = false := by simp
  clear ha hb hn
  go_enter Try.func53, Try.ntmps53
  go_wp2_with fail
  go_loopw [13] (fun x13 wr => ∃ i : Nat, x13 = .int .i64 i ∧ i ≤ n ∧ Chg (fun _ => False) w wr) (fun x13 _ => n - (intOf x13).toNat)
  case atStart => exact ⟨0, rfl, Nat.zero_le _, Chg.refl _ _⟩
  case round =>
    obtain ⟨i, rfl, hi, hc⟩ := hrel
    have HC := Lib.hid hc
    by_cases hlt : i < n
    · have hd : decide ((i : Int) < (n : Int)) = true := by simp; omega
      have hd' : decide (i < n) = true := by simp; omega
      have hi0 : (0 : Int) ≤ (i : Int) := Int.natCast_nonneg _
      have hi1 : (i : Int) < (n : Int) := by omega
      obtain ⟨e, he⟩ : ∃ e, l[i]? = some e := ⟨l[i]'(by rw [HN.out]; exact hlt), List.getElem?_eq_getElem _⟩
      obtain ⟨b1, o1, rfl, -, x1⟩ := (HA.out.chg hc (fun _ _ _ h => h)) i e he
      obtain ⟨b2, o2, rfl, -, x2⟩ := (HB.out.chg hc (fun _ _ _ h => h)) i e he
      obtain ⟨ec, en, ek, em, et, eu, eo⟩ := e
      have p0 : wr.cell? ⟨b1, o1 + i * 7, none⟩ = some (.int .i64 ec) := x1 0 _ rfl
      have p1 : wr.cell? ⟨b1, o1 + i * 7 + 1, none⟩ = some (.int .i64 en) := x1 1 _ rfl
      have p2 : wr.cell? ⟨b1, o1 + i * 7 + 2, none⟩ = some (.int .i64 ek) := x1 2 _ rfl
      have p3 : wr.cell? ⟨b1, o1 + i * 7 + 3, none⟩ = some (.string em) := x1 3 _ rfl
      have p4 : wr.cell? ⟨b1, o1 + i * 7 + 4, none⟩ = some (.string et) := x1 4 _ rfl
      have p5 : wr.cell? ⟨b1, o1 + i * 7 + 5, none⟩ = some (.int .i64 eu) := x1 5 _ rfl
      have p6 : wr.cell? ⟨b1, o1 + i * 7 + 6, none⟩ = some (.int .i64 eo) := x1 6 _ rfl
      have q0 : wr.cell? ⟨b2, o2 + i * 7, none⟩ = some (.int .i64 ec) := x2 0 _ rfl
      have q1 : wr.cell? ⟨b2, o2 + i * 7 + 1, none⟩ = some (.int .i64 en) := x2 1 _ rfl
      have q2 : wr.cell? ⟨b2, o2 + i * 7 + 2, none⟩ = some (.int .i64 ek) := x2 2 _ rfl
      have q3 : wr.cell? ⟨b2, o2 + i * 7 + 3, none⟩ = some (.string em) := x2 3 _ rfl
      have q4 : wr.cell? ⟨b2, o2 + i * 7 + 4, none⟩ = some (.string et) := x2 4 _ rfl
      have q5 : wr.cell? ⟨b2, o2 + i * 7 + 5, none⟩ = some (.int .i64 eu) := x2 5 _ rfl
      have q6 : wr.cell? ⟨b2, o2 + i * 7 + 6, none⟩ = some (.int .i64 eo) := x2 6 _ rfl
      clear x1 x2 he
      go_wp2_with fail
      go_quiet (fail)
      go_wp2_with fail
      go_roundw
      case rel => exact ⟨i + 1, by simp, by omega, HC.out.drewN _⟩
      case measure => simp [intOf]; omega
    · have hd : decide ((i : Int) < (n : Int)) = false := by simp; omega
      have hd' : decide (i < n) = false := by simp; omega
      go_wp2_with fail
      go_ret
      exact ⟨rfl, hc⟩
def markE (i : Nat) : En := ⟨-7, -1 - i, 0, ByteArray.empty, ByteArray.empty, 0, 0⟩
theorem mark_any (i : Nat) (w : World) (hi : i ≤ 1152921504606846976) : Calls Try.prog 60 #[.int .i64 i] w fun e w' => e = .returned (.agg (markE i).cells.toArray) ∧ w' = w.alloc (.cells (markE i).cells.toArray 51) := by
  have hw1 : IntKind.i64.wrap (-1 - (i : Int)) = -1 - (i : Int) := IntWalk.i64_in _ (by omega)
  go_enter Try.func60, Try.ntmps60
  go_wp2_with fail
  refine bodyPost_ret (v := .agg (markE i).cells.toArray) (by simp [results, Try.results60, go_sem, *]; rfl) rfl ⟨rfl, rfl⟩
/-- Entries behind a slice that can be read. -/
theorem EnS.of_src {w : World} {v : Value} {n : Nat} {l : List En} (h : Src w v n 7 (flat l)) (hf : ∀ b, v.ownBlock = some b → b < w.heap.size ∧ ∃ n c, v = .slice (some ⟨b, 0, none⟩) n c) : ∃ A c, v = .slice A n c ∧ l.length = n ∧ EnS w A l := by
  have hl : l.length = n := by have := h.1; rw [flat_len] at this; omega
  rcases h.2 with ⟨c, rfl, rfl⟩ | ⟨ad, c, rfl, hc⟩
  · exact ⟨none, c, rfl, hl, fun i e hi => by
      have : l = [] := List.eq_nil_of_length_eq_zero hl
      subst this
      simp at hi⟩
  · obtain ⟨hlt, n', c', hv⟩ := hf ad.block rfl
    refine ⟨some ad, c, rfl, hl, fun i e hi => ⟨ad.block, 0, (Value.slice.inj hv).1, hlt, fun j u hu => ?_⟩⟩
    have h1 := hc _ _ (flat_get l i e hi j u hu)
    have e1 : ad = ⟨ad.block, 0, none⟩ := Option.some.inj (Value.slice.inj hv).1
    have e2 : ad.add (i * 7 + j) = ⟨ad.block, 0 + i * 7 + j, none⟩ := by
      generalize ad.block = bb at e1
      subst e1
      unfold Addr.add
      split <;> simp_all
    rw [← e2]
    exact h1
def Gd (xs : List Value) : Prop := ∃ l : List En, xs = flat l
theorem Gd.one {xs : List Value} (h : Gd xs) : ∀ u ∈ xs, u.oneCell' = true := by
  obtain ⟨l, rfl⟩ := h
  exact flat_one_cell l
def Okk (k : KM) : Prop := ∀ i, i < k.M → Gd (k.xs i) ∧ k.len i ≤ 1000000
abbrev kO (k : KM) : Hp.Own := k.own 52 51
abbrev bO (g : Nat) (av bv : Value) (f : Nat) (k : KM) : Hp.Own := Hp.Own.both (Hp.Own.blk g #[av, bv, k.ov, k.wv, .int .i64 (f : Nat)] 78) (kO k)
theorem KM.ens {k : KM} {w : World} {lo hi : Nat} (h : (kO k).holds w) (hw : k.Wf lo hi) (hg : Okk k) {i : Nat} (hi : i < k.M) : ∃ A c B d l, k.out i = .slice A (k.len i) c ∧ k.want i = .slice B (k.len i) d ∧ l.length = k.len i ∧ EnS w A l ∧ EnS w B l := by
  obtain ⟨s1, s2⟩ := KM.reads h hw hi
  obtain ⟨f1, f2⟩ := KM.forms h hw hi
  obtain ⟨l, hl⟩ := (hg i hi).1
  rw [hl] at s1 s2
  obtain ⟨A, c, e1, hl1, x1⟩ := EnS.of_src s1 f1
  obtain ⟨B, d, e2, _, x2⟩ := EnS.of_src s2 f2
  exact ⟨A, c, B, d, l, e1, e2, hl1, x1, x2⟩
theorem holds_any (g : Nat) (av bv : Value) (f lo hi : Nat) (k : KM) (w : World) (h : (bO g av bv f k).holds w) (hw : k.Wf lo hi) (hg : Okk k) (hN : k.M ≤ 8796093022208) :
    Calls Try.prog 41 #[.pointer (some ⟨g, 2, none⟩)] w fun e w' => e = .returned (.bool true) ∧ Chg (fun _ => False) w w' := by
  obtain ⟨M, hM⟩ : ∃ M, k.M = M := ⟨_, rfl⟩
  obtain ⟨Ao, co, hov⟩ := row_slice (KM.outs h.2.1)
  obtain ⟨Aw, cw, hwv⟩ := row_slice (KM.wants h.2.1)
  have HH := Lib.hid h
  have HG := Lib.hid hg
  have HW := Lib.hid hw
  have HM := Lib.hid hM
  obtain ⟨-, -, b2, b3, -⟩ := h.1.five
  rw [hM] at hN hov hwv
  rw [hov] at b2
  rw [hwv] at b3
  clear hg h hM hw
  go_enter Try.func41, Try.ntmps41
  go_wp2_with fail
  go_loopw [10] (fun x10 wr => ∃ i : Nat, x10 = .int .i64 i ∧ i ≤ M ∧ Chg (fun _ => False) w wr) (fun x10 _ => M - (intOf x10).toNat)
  case atStart => exact ⟨0, rfl, Nat.zero_le _, Chg.refl _ _⟩
  case round =>
    obtain ⟨i, rfl, hin, hc⟩ := hrel
    have HC := Lib.hid hc
    have H2 : Hid ((bO g av bv f k).holds wr) := Lib.hid (Own.chg HH.out hc (fun _ _ h => h))
    by_cases hlt : i < M
    · have hd : decide ((i : Int) < (M : Int)) = true := by simp; omega
      have hd' : decide (i < M) = true := by simp; omega
      obtain ⟨-, -, b2, b3, -⟩ := H2.out.1.five
      rw [hov] at b2
      rw [hwv] at b3
      obtain ⟨go, co', gw, cw', e1, e2, c0, c1⟩ := KM.at_ H2.out.2.1 (i := i) (by rw [HM.out]; exact hlt)
      rw [HM.out] at e1 e2
      rw [hov] at e1
      rw [hwv] at e2
      obtain ⟨rfl, _, rfl⟩ := Value.slice.inj e1
      obtain ⟨rfl, _, rfl⟩ := Value.slice.inj e2
      obtain ⟨A, ca, B, cb, l, hx, hy, hl, x1, x2⟩ := KM.ens H2.out.2.1 HW.out HG.out (i := i) (by rw [HM.out]; exact hlt)
      rw [hx] at c0
      rw [hy] at c1
      have hlen := (HG.out i (by rw [HM.out]; exact hlt)).2
      have HS := Lib.hid (same_any A B (k.len i) ca cb l wr x1 x2 hl (by omega))
      generalize k.len i = n at *
      clear x1 x2 e1 e2 hx hy hl
      go_wp2_with (first
        | (go_at_call 53; (with_reducible refine HS.out.mono ?_); rintro r w2 ⟨rfl, hc2⟩; have HC2 := Lib.hid (HC.out.trans hc2); clear hc2))
      go_roundw
      case rel => exact ⟨i + 1, by simp, by omega, HC2.out⟩
      case measure => simp [intOf]; omega
    · have hd : decide ((i : Int) < (M : Int)) = false := by simp; omega
      have hd' : decide (i < M) = false := by simp; omega
      go_wp2_with fail
      go_ret
      exact ⟨rfl, hc⟩
end Go.Proofs.Ytpaaghbmlenlfaa.Ol
