/- SheetsLooks: how few nodes are looked at. -/
import Derived.Test.YtmpkjfengfgagaaBkL
namespace Go.Proofs.Ytmpkjfengfgagaa.Bk
open Go.RowKit Go.Hp
attribute [local go_sem] min2_lean min_two max2_lean max_two
set_option linter.unusedSimpArgs false
set_option linter.unusedVariables false
set_option maxRecDepth 100000
attribute [local go_sem] run_seq_eq
section
theorem looks_law {P : Pool} {b : Bk} {A : Ab} (h : Bk.Is P b A) (a : Int) {d : Nat} (hd6 : d ≤ 6) (hd : wdF A.n = 2 ^ d) (h0 : d = 0 ↔ A.n = 1) {k : Nat} (hk : k = (newer A.at_ (max a 0) 0 A.n).length) :
    (k = 0 → lkR A.at_ (max a 0) d 0 = 1) ∧ (k ≠ 0 → lkR A.at_ (max a 0) d 0 ≤ 1 + 12 * k ∧ 1 ≤ lkR A.at_ (max a 0) d 0 ∧ (A.n = 1 → lkR A.at_ (max a 0) d 0 = 1) ∧ (A.n ≠ 1 → 3 ≤ lkR A.at_ (max a 0) d 0)) := by
  have hpad : newer A.at_ (max a 0) 0 (2 ^ d) = newer A.at_ (max a 0) 0 A.n := by
    refine newer_pad (by omega) (by rw [← hd, ← h.n]; exact (wdF_rng h.ok.n1 h.ok.n64).1) fun i hi => ?_
    rw [← h.at_]
    exact h.ok.hi i (by rw [h.n]; exact hi)
  have hm : (0 : Int) ≤ max a 0 := by omega
  refine ⟨fun hk0 => lkR_one hm d 0 (by rw [hpad]; exact List.eq_nil_of_length_eq_zero (by omega)), fun hk0 => ⟨?_, lkR_pos _ _ _ _, fun hn => ?_, fun hn => ?_⟩⟩
  · have h9 := lkR_few hm d 0 (at_ := A.at_)
    rw [hpad, ← hk] at h9
    have h8 : 2 * d * k ≤ 12 * k := Nat.mul_le_mul_right _ (by omega)
    omega
  · rw [h0.2 hn]
    rfl
  · obtain ⟨e, rfl⟩ : ∃ e, d = e + 1 := ⟨d - 1, by have : d ≠ 0 := fun e => hn (h0.1 e); omega⟩
    refine lkR_three hm e 0 (fun e9 => hk0 ?_)
    rw [hk, ← hpad, e9]
    rfl
theorem Ab.n_put (A : Ab) (num a : Int) (l : List UInt8) : (A.put num a l).n = A.n := by unfold Ab.put; split <;> rfl
/-- A row of bytes that is new. -/
theorem byt_new {W : World} {X : Hp.Own} (hX : X.holds W) (u : UInt8) : Byt (W.alloc (.cells #[bv u] 5 (1, 2))) (.slice (some ⟨W.heap.size, 0, none⟩) 1 1) [u] ∧ ∀ w', Chg X.foot (W.alloc (.cells #[bv u] 5 (1, 2))) w' → Byt w' (.slice (some ⟨W.heap.size, 0, none⟩) 1 1) [u] := by
  have h1 : Byt (W.alloc (.cells #[bv u] 5 (1, 2))) (.slice (some ⟨W.heap.size, 0, none⟩) 1 1) [u] := ⟨rfl, Or.inr ⟨_, _, rfl, fun j v hj => by
    have ha : (⟨W.heap.size, 0, none⟩ : Addr).add j = ⟨W.heap.size, j, none⟩ := by unfold Addr.add; split <;> simp_all
    rw [ha, cell_of_row _ W.heap.size j #[bv u] 5 (1, 2) (by show (W.heap.push _)[W.heap.size]? = _; simp)]
    simpa using hj⟩⟩
  refine ⟨h1, fun w' hc => src_far h1 hc fun q hq => ?_⟩
  have hq : some W.heap.size = some q := hq
  cases hq
  exact ⟨by simp, fun hf => Nat.lt_irrefl _ (X.lt hX _ hf)⟩
theorem looks_zero {P : Pool} {b : Bk} {n : Nat} {w : World} {g : Nat} (hg : g = b.g) (h : Bk.Is P b ⟨n, fun _ => 0, fun _ => []⟩) (hh : (Hp.Own.both P.own b.own).holds w) :
    Calls Try.prog 14 #[.pointer (some ⟨g, 0, none⟩), .int .i64 0] w fun e w' => e = .returned (.int .i64 1) ∧ w' = w := by
  obtain ⟨d, hd6, hwd, h0⟩ := wd_pow h.ok.n1 h.ok.n64
  have hn : b.n = n := h.n
  rw [hn] at hwd h0
  have h1 := (looks_law h 0 hd6 hwd h0 (k := 0) (by
    have h9 : newer (fun _ => (0 : Int)) (max 0 0) 0 n = [] := (newer_nil (by omega)).2 ((mostF_le (by omega) n).2 fun i _ => by show (0 : Int) ≤ _; omega)
    show 0 = (newer (fun _ => (0 : Int)) (max 0 0) 0 n).length
    rw [h9]
    rfl)).1 rfl
  rw [hg]
  refine (looks_any h hh 0 hd6 hwd).mono ?_
  rintro e w' ⟨rfl, rfl⟩
  exact ⟨by rw [h1]; rfl, rfl⟩
theorem put_zero {P : Pool} {b : Bk} {n : Nat} {w : World} {g : Nat} (hg : g = b.g) (h : Bk.Is P b ⟨n, fun _ => 0, fun _ => []⟩) (hh : (Hp.Own.both P.own b.own).holds w) :
    Calls Try.prog 15 #[.pointer (some ⟨g, 0, none⟩), .int .i64 0, .int .i64 1, .slice (some ⟨w.heap.size, 0, none⟩) 1 1] (w.alloc (.cells #[.int .u8 120] 5 (1, 2))) fun e w' => e = .returned (.int .i64 0) ∧ ∃ (P' : Pool) (b' : Bk), b'.g = g ∧ Bk.Is P' b' (Ab.put ⟨n, fun _ => 0, fun _ => []⟩ 0 1 [120]) ∧ Turns (w.alloc (.cells #[.int .u8 120] 5 (1, 2))) w' (Hp.Own.both P.own b.own) (Hp.Own.both P'.own b'.own) := by
  obtain ⟨q1, q2⟩ := byt_new hh 120
  have hn : b.n = n := h.n
  have hn1 := h.ok.n1
  rw [hg]
  refine (put_any h ((Turns.refl hh).alloc _).now 0 1 (some ⟨w.heap.size, 0, none⟩) 1 1 [120] q1 q2 rfl).mono ?_
  rintro e w' ⟨rfl, P', b', h1, -, h2, h3⟩
  refine ⟨?_, P', b', h1, h2, h3⟩
  have hl : Ab.last ⟨n, fun _ => 0, fun _ => []⟩ ≤ 1 := (mostF_le (by omega) n).2 fun i _ => by show (0 : Int) ≤ 1; omega
  unfold Ab.putE
  rw [if_pos ⟨by omega, by show (0 : Int) < n; omega⟩, if_pos ⟨by omega, by omega, hl⟩]
  rfl
theorem looks_no (n at_ : Int) (A : Option Addr) (k c : Nat) (w : World) (h : n < 1 ∨ 64 < n) :
    Calls Try.prog 3 #[.int .i64 n, .slice A k c, .int .i64 at_] w fun e w' => e = .returned (.bool true) ∧ Below w.heap.size w w' := by
  have HN := Lib.hid (new_no n w h)
  by_cases h1 : n < 1
  · have d1 : decide (n < 1) = true := by simpa using h1
    go_enter Try.func3, Try.ntmps3
    go_wp2_with (first
      | (go_at_call 12; (with_reducible refine HN.out.mono ?_); rintro r w3 ⟨rfl, hq⟩; have hq := hq.symm; subst hq))
    go_ret
    exact ⟨rfl, Below.refl _ _⟩
  · have d1 : decide (n < 1) = false := by simpa using h1
    have d2 : decide (64 < n) = true := by simp; omega
    go_enter Try.func3, Try.ntmps3
    go_wp2_with (first
      | (go_at_call 12; (with_reducible refine HN.out.mono ?_); rintro r w3 ⟨rfl, hq⟩; have hq := hq.symm; subst hq))
    go_ret
    exact ⟨rfl, Below.refl _ _⟩
set_option maxHeartbeats 4000000 in
theorem looks_yes (n : Nat) (at_ : Int) (A1 : Option Addr) (n1 c1 : Nat) (l1 : List AcS) (w : World) (h1 : 1 ≤ n) (h2 : n ≤ 64) (hf : SlR 6 80 ActR w [.slice A1 n1 c1] l1) (hn1 : l1.length = n1) (hb1 : n1 ≤ 1759218604440) :
    Calls Try.prog 3 #[.int .i64 n, .slice A1 n1 c1, .int .i64 at_] w fun e w' => e = .returned (.bool true) ∧ Below w.heap.size w w' := by
  have HF := Lib.hid hf
  have HN := Lib.hid hn1
  have HNW := Lib.hid (new_is n w h1 h2)
  have kc := fun (w : World) (C : Array Value) (n c : Nat) => Lib.run_convert_bytes_const (P := Try.prog) w 32 5 C n c Try.underlying32 Try.underlying5
  have d1 : decide ((n : Int) < 1) = false := by simp; omega
  have d2 : decide ((64 : Int) < (n : Int)) = false := by simp; omega
  clear hf hn1
  go_enter Try.func3, Try.ntmps3
  go_wp2_with (first
    | (go_at_call 12; (with_reducible refine HNW.out.mono ?_); rintro r w3 ⟨b, rfl, hi, ht⟩; have HI := Lib.hid hi; have HT := Lib.hid ht; clear hi ht; have HT2 := Lib.hid ((HT.out.alloc (.cells #[.pointer (some ⟨b.g, 0, none⟩)] 23)).alloc (.cells #[.int .i64 0] 3)); obtain ⟨g, hg⟩ : ∃ g, g = b.g := ⟨_, rfl⟩; have HG := Lib.hid hg; rw [← hg] at HT2 ⊢; clear hg)
    | (go_at_call 13; (with_reducible refine (since_any g 0 _).mono ?_); rintro r w4 ⟨rfl, rfl⟩; obtain ⟨W4, hW4⟩ : ∃ W, W = (w3.alloc (.cells #[.pointer (some ⟨g, 0, none⟩)] 23)).alloc (.cells #[.int .i64 0] 3) := ⟨_, rfl⟩; rw [← hW4] at HT2 ⊢; clear hW4)
    | (go_at_call 14; (with_reducible refine (show _ from (looks_zero HG.out HI.out HT2.out.now)).mono ?_); rintro r w1' ⟨rfl, hq⟩; have hq := hq.symm; subst hq; have HP := Lib.hid (put_zero HG.out HI.out HT2.out.now))
    | (go_at_call 15; (with_reducible refine HP.out.mono ?_); rintro r w5 ⟨rfl, P', b', hg', hi', ht'⟩; have HI5 := Lib.hid hi'; have HG5 := Lib.hid hg'; have HT5 := Lib.hid ((HT2.out.alloc _).trans ht'); clear hi' hg' ht'))
  have hrel0 : Hid (∃ (P : Pool) (b : Bk) (A : Ab), b.g = g ∧ A.n = n ∧ Bk.Is P b A ∧ Turns w w5 Hp.Own.emp (Hp.Own.both P.own b.own)) := Lib.hid ⟨P', b', _, HG5.out, by rw [Ab.n_put], HI5.out, HT5.out⟩
  clear HP HT HT2 HI HG HI5 HG5 HT5
  go_loopw [47] (fun x47 wr => ∃ (i : Nat) (P : Pool) (b : Bk) (A : Ab), x47 = .int .i64 i ∧ i ≤ n1 ∧ b.g = g ∧ A.n = n ∧ Bk.Is P b A ∧ Turns w wr Hp.Own.emp (Hp.Own.both P.own b.own)) (fun x47 _ => n1 - (intOf x47).toNat)
  case atStart =>
    obtain ⟨P, b, A, h1, h2, h3, h4⟩ := hrel0.out
    exact ⟨0, P, b, A, rfl, Nat.zero_le _, h1, h2, h3, h4⟩
  case round =>
    clear hrel0
    obtain ⟨i, P, b, A, rfl, hi, hg, hAn, his, ht⟩ := hrel
    have HT := Lib.hid ht
    have HI := Lib.hid his
    have HG := Lib.hid hg
    have HAN := Lib.hid hAn
    clear ht his hg hAn
    by_cases hlt : i < n1
    · have hd : decide ((i : Int) < (n1 : Int)) = true := by simp; omega
      have hd' : decide (i < n1) = true := by simpa using hlt
      have hi0 : (0 : Int) ≤ (i : Int) := Int.natCast_nonneg _
      have hi1 : (i : Int) < (n1 : Int) := by omega
      have hwi : IntKind.i64.wrap ((i : Int) + 1) = (i : Int) + 1 := IntWalk.i64_in _ (by omega)
      obtain ⟨ab, aoff, hA1, hbl, ds, -, ⟨v1, v2, hds, hv1, hv2⟩, hc⟩ := SlR.at_ HF.out (show i < l1.length by rw [HN.out]; exact hlt)
      have hA1' := hA1
      subst hA1'
      obtain ⟨x, hx⟩ : ∃ x, x = l1[i]'(by rw [HN.out]; exact hlt) := ⟨_, rfl⟩
      rw [← hx] at hds hv1 hv2
      obtain ⟨xk, xb, xn, xa, xd, xl⟩ := x
      obtain ⟨Ad, cd, rfl, hby, hd48⟩ := SlR.byt hv1
      obtain ⟨Al, cl, hv2e, -, -⟩ := SlR.form hv2
      have hv2' : v2 = .slice Al xl.length cl := by simpa using hv2e
      subst hv2'
      have hcc : ∀ j u, ds[j]? = some u → wr.cell? ⟨ab, aoff + i * 6 + j, none⟩ = some u := fun j u hu => ((kept_chg HT.out).cell (p := ⟨ab, aoff + i * 6 + j, none⟩) hbl (fun h => h)).trans (hc j u hu)
      rw [hds] at hcc
      have z0 : wr.cell? ⟨ab, aoff + i * 6, none⟩ = some (.int .i64 xk) := hcc 0 _ rfl
      have z1 : wr.cell? ⟨ab, aoff + i * 6 + 1, none⟩ = some (.int .i64 xb) := hcc 1 _ rfl
      have z2 : wr.cell? ⟨ab, aoff + i * 6 + 2, none⟩ = some (.int .i64 xn) := hcc 2 _ rfl
      have z3 : wr.cell? ⟨ab, aoff + i * 6 + 3, none⟩ = some (.int .i64 xa) := hcc 3 _ rfl
      have z4 : wr.cell? ⟨ab, aoff + i * 6 + 4, none⟩ = some (.slice Ad xd.length cd) := hcc 4 _ rfl
      have z5 : wr.cell? ⟨ab, aoff + i * 6 + 5, none⟩ = some (.slice Al xl.length cl) := hcc 5 _ rfl
      have HPU := Lib.hid (fun (o : Obj) => put_any HI.out (HT.out.alloc o).now xn xa Ad xd.length cd xd (byt_keep hby ((kept_chg HT.out).alloc o)) (fun w' hc' => byt_keep hby (far_chg (HT.out.alloc o) hc')) rfl)
      rw [HG.out] at HPU
      clear hc hcc hds hv1 hv2 hby hx hA1 hv2e
      go_wp2_with (first
        | (go_at_call 15; refine (HPU.out _).mono ?_; rintro r w6 ⟨rfl, P6, b6, hg6, -, hi6, ht6⟩; have HI6 := Lib.hid hi6; have HG6 := Lib.hid hg6; have HT6 := Lib.hid ((HT.out.alloc _).trans ht6); clear hi6 hg6 ht6))
      go_roundw
      case rel => exact ⟨i + 1, P6, b6, _, by simp, hlt, HG6.out, by rw [Ab.n_put, HAN.out], HI6.out, HT6.out⟩
      case measure => simp [intOf]; omega
    · have hd : decide ((i : Int) < (n1 : Int)) = false := by simp; omega
      have hd' : decide (i < n1) = false := by simp; omega
      have HGI := Lib.hid (given_any HI.out HT.out.now at_ (-1))
      rw [HG.out] at HGI
      obtain ⟨d, hd6, hwd, hd0⟩ := wd_pow HI.out.ok.n1 HI.out.ok.n64
      rw [HI.out.n] at hwd hd0
      obtain ⟨L, hL⟩ : ∃ L, L = lkR A.at_ (max at_ 0) d 0 := ⟨_, rfl⟩
      obtain ⟨k, hk⟩ : ∃ k, k = (newer A.at_ (max at_ 0) 0 A.n).length := ⟨_, rfl⟩
      have hlaw := looks_law HI.out at_ hd6 hwd hd0 hk
      rw [← hL, HAN.out] at hlaw
      have hk64 : k ≤ 64 := by
        rw [hk, HAN.out]
        unfold newer
        exact Nat.le_trans (List.length_filter_le _ _) (by simp; exact h2)
      have HLK : Hid (∀ (w6 : World) (P6 : Pool) (b6 : Bk), b6.g = g → Bk.Is P6 b6 A → (Hp.Own.both P6.own b6.own).holds w6 → Calls Try.prog 14 #[.pointer (some ⟨g, 0, none⟩), .int .i64 at_] w6 fun e w' => e = .returned (.int .i64 L) ∧ w' = w6) := Lib.hid (fun w6 P6 b6 hg h hh => by
        rw [← hg, hL]
        exact looks_any h hh at_ hd6 hwd)
      have HKK := Lib.hid hk
      clear hd6 hwd hd0 hL hk
      have fin : ∀ e0 : Bool, e0 = true → e0 = true := fun _ h => h
      have arms : True := trivial
      by_cases hk0 : k = 0
      · have e1 : L = 1 := hlaw.1 hk0
        subst hk0
        subst e1
        clear hlaw
        go_wp2_with (first
          | (go_at_call 16; refine HGI.out.mono ?_; rintro r w6 ⟨xs, V, P6, b6, rfl, hxs, hg6, -, hi6, ht6⟩; have HI6 := Lib.hid hi6; have HG6 := Lib.hid hg6; have HT6 := Lib.hid (HT.out.trans ht6); obtain ⟨Av, cv, hV⟩ := row_slice ht6.n0; have hxl : xs.length = 0 := (by have h9 := congrArg List.length hxs; rw [List.length_map] at h9; rw [h9]; exact HKK.out.symm); rw [hxl] at hV; subst hV; have hLK := HLK.out w6 P6 b6 HG6.out HI6.out HT6.out.n11; clear hi6 hg6 ht6 hxs)
          | (go_at_call 14; (with_reducible refine hLK.mono ?_); rintro r w1' ⟨rfl, hq⟩; have hq := hq.symm; subst hq))
        go_ret
        exact ⟨rfl, HT6.out.chg.below (fun _ h => h.elim) (Nat.le_refl _)⟩
      · obtain ⟨e1, e2, e3, e4⟩ := hlaw.2 hk0
        have t0 : ((k : Int) == 0) = false := by simp; omega
        have t1 : IntKind.i64.wrap (12 * (k : Int)) = 12 * (k : Int) := IntWalk.i64_in _ (by omega)
        have t2 : IntKind.i64.wrap (1 + 12 * (k : Int)) = 1 + 12 * (k : Int) := IntWalk.i64_in _ (by omega)
        have t3 : decide ((L : Int) ≤ 1 + 12 * (k : Int)) = true := by simp; omega
        have t4 : decide ((1 : Int) ≤ (L : Int)) = true := by simp; omega
        have t4' : decide (1 ≤ L) = true := by simp; omega
        clear hlaw hk0
        by_cases hn1 : n = 1
        · have e5 : L = 1 := e3 hn1
          subst e5
          subst hn1
          clear e1 e2 e3 e4 t4 t4'
          go_wp2_with (first
            | (go_at_call 16; refine HGI.out.mono ?_; rintro r w6 ⟨xs, V, P6, b6, rfl, hxs, hg6, -, hi6, ht6⟩; have HI6 := Lib.hid hi6; have HG6 := Lib.hid hg6; have HT6 := Lib.hid (HT.out.trans ht6); obtain ⟨Av, cv, hV⟩ := row_slice ht6.n0; have hxl : xs.length = k := (by have h9 := congrArg List.length hxs; rw [List.length_map] at h9; rw [h9]; exact HKK.out.symm); rw [hxl] at hV; subst hV; have hLK := HLK.out w6 P6 b6 HG6.out HI6.out HT6.out.n11; clear hi6 hg6 ht6 hxs)
            | (go_at_call 14; (with_reducible refine hLK.mono ?_); rintro r w1' ⟨rfl, hq⟩; have hq := hq.symm; subst hq))
          go_ret
          exact ⟨rfl, HT6.out.chg.below (fun _ h => h.elim) (Nat.le_refl _)⟩
        · have t5 : decide ((1 : Int) < (n : Int)) = true := by simp; omega
          have t5' : decide (1 < n) = true := by simp; omega
          have t6 : ((n : Int) == 1) = false := by simp; omega
          have t7 : decide ((3 : Int) ≤ (L : Int)) = true := by have := e4 hn1; simp; omega
          have t7' : decide (3 ≤ L) = true := by have := e4 hn1; simp; omega
          clear e1 e2 e3 e4 hn1
          go_wp2_with (first
            | (go_at_call 16; refine HGI.out.mono ?_; rintro r w6 ⟨xs, V, P6, b6, rfl, hxs, hg6, -, hi6, ht6⟩; have HI6 := Lib.hid hi6; have HG6 := Lib.hid hg6; have HT6 := Lib.hid (HT.out.trans ht6); obtain ⟨Av, cv, hV⟩ := row_slice ht6.n0; have hxl : xs.length = k := (by have h9 := congrArg List.length hxs; rw [List.length_map] at h9; rw [h9]; exact HKK.out.symm); rw [hxl] at hV; subst hV; have hLK := HLK.out w6 P6 b6 HG6.out HI6.out HT6.out.n11; clear hi6 hg6 ht6 hxs)
            | (go_at_call 14; (with_reducible refine hLK.mono ?_); rintro r w1' ⟨rfl, hq⟩; have hq := hq.symm; subst hq))
          go_ret
          exact ⟨rfl, HT6.out.chg.below (fun _ h => h.elim) (Nat.le_refl _)⟩
end
end Go.Proofs.Ytmpkjfengfgagaa.Bk
