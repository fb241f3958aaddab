/- Texts of this claim, one behind the other: RlQ. -/
import Derived.Test.YtkpgdonpmfebaaaRollRisesMc
import Derived.Deep.DeepCutAuto
/- A client's row only rises: the walk of RollRises. -/
namespace Go.Proofs.Ytkpgdonpmfebaaa.Rl
open Go.Proofs.Ytkpgdonpmfebaaa.Bt
open Go.RowKit Go.Hp
attribute [local go_sem] min2_lean min_two max2_lean max_two
set_option linter.unusedSimpArgs false
set_option linter.unusedVariables false
set_option maxRecDepth 100000
theorem last_at (s : RlS) (g : Nat) (hg : s.g = g) (k : Int) (hok : s.ok) (x : RwA) (b : Bool) (hx : s.last k = x) (hb : s.has k = b) (w : World) (hs : s.own.holds w) :
    Calls Try.prog 41 #[.pointer (some ⟨g, 0, none⟩), .int .i64 k] w fun e w' => ∃ A c, e = .returned (.tuple #[.agg #[.int .i64 x.num, .int .i64 x.at_, .int .i64 x.code, .int .i64 x.n, .slice A x.its.length c], .bool b]) ∧ Turns w w' Hp.Own.emp (irow (.slice A x.its.length c) x.its) := by
  subst hg hx hb
  exact last_any s k w hs hok
theorem bytes_len (s : RlS) (g : Nat) (hg : s.g = g) (k : Int) (hok : s.ok) (L : Nat) (hL : (s.bytes k).length = L) (w : World) (hs : s.own.holds w) :
    Calls Try.prog 43 #[.pointer (some ⟨g, 0, none⟩), .int .i64 k] w fun e w' => ∃ A c, e = .returned (.slice A L c) ∧ Turns w w' Hp.Own.emp (Hp.Own.row 5 1 (.slice A L c) L ((s.bytes k).map bv)) := by
  subst hg hL
  exact bytes_any s k w _ rfl hs hok
theorem last_len {s : RlS} (h : s.ok) (k : Int) : (s.last k).its.length ≤ 8 := by
  unfold RlS.last
  split
  · rename_i hk
    unfold RlS.has at hk
    have := of_decide_eq_true hk
    exact h.len (by omega)
  · simp [RwA.zero]
/-- All that a round's calls tell. -/
structure Rnd (s : RlS) (S : Value → RlS) (g j : Nat) (r : RwA) (e : Int) (was is : Bool) (old x : RwA) (L : Nat) : Prop where
  last1 : ∀ W, s.own.holds W → Calls Try.prog 41 #[.pointer (some ⟨g, 0, none⟩), .int .i64 j] W fun q w' => ∃ A c, q = .returned (.tuple #[.agg #[.int .i64 old.num, .int .i64 old.at_, .int .i64 old.code, .int .i64 old.n, .slice A old.its.length c], .bool was]) ∧ Turns W w' Hp.Own.emp (irow (.slice A old.its.length c) old.its)
  set : ∀ A c W, s.own.holds W → Src W (.slice A r.its.length c) r.its.length 1 (r.its.map Value.string) → Calls Try.prog 42 #[.pointer (some ⟨g, 0, none⟩), .int .i64 j, .agg #[.int .i64 r.num, .int .i64 r.at_, .int .i64 r.code, .int .i64 r.n, .slice A r.its.length c]] W fun q w' => q = .returned (.int .i64 e) ∧ ∃ v, Turns W w' s.own (S v).own
  last2 : ∀ v W, (S v).own.holds W → Calls Try.prog 41 #[.pointer (some ⟨g, 0, none⟩), .int .i64 j] W fun q w' => ∃ A c, q = .returned (.tuple #[.agg #[.int .i64 x.num, .int .i64 x.at_, .int .i64 x.code, .int .i64 x.n, .slice A x.its.length c], .bool is]) ∧ Turns W w' Hp.Own.emp (irow (.slice A x.its.length c) x.its)
  bytes : ∀ v W, (S v).own.holds W → Calls Try.prog 43 #[.pointer (some ⟨g, 0, none⟩), .int .i64 j] W fun q w' => ∃ A c, q = .returned (.slice A L c) ∧ Chg (fun _ => False) W w'
  ok : ∀ v, (S v).ok ∧ (S v).g = g
  oldb : old.its.length ≤ 140737488351232
  few : L < 600 ∧ is = decide (0 < L)
  taken : e = 0 → is = true ∧ x = r ∧ (was = true → old.num < r.num ∧ old.at_ < r.at_)
  left : e ≠ 0 → is = was ∧ x = old ∧ ¬ (1 ≤ r.num ∧ 1 ≤ r.at_ ∧ r.num ≤ 1099511627776 ∧ r.at_ ≤ 1099511627776 ∧ r.code = 0 ∧ r.n = 0 ∧ r.its.length = 0 ∧ (was = true → old.num < r.num ∧ old.at_ < r.at_))
theorem round_says (s : RlS) (g j : Nat) (r : RwA) (hg : s.g = g) (hok : s.ok) (hj : j < 8) (hr : r.its.length * 16 ≤ 140737488351232) : ∃ S e was is old x L, Rnd s S g j r e was is old x L := by
  have hs := fun v => set_says s hok j hj r v
  by_cases h : s.setE j r = 0
  · have h1 := fun v => (hs v).1 h
    refine ⟨fun v => s.put j r v, 0, s.has j, true, s.last j, r, (rowB r).length, ⟨fun W h => last_at s g hg j hok _ _ rfl rfl W h, fun A c W hh hx => ?_, fun v W hh => last_at (s.put j r v) g hg j (h1 v).1 _ _ (h1 v).2.2.1 (h1 v).2.1 W hh, fun v W hh => ?_, fun v => ⟨(h1 v).1, hg⟩, by have := last_len hok j; omega, ?_, fun _ => ⟨rfl, rfl, (h1 (.bool false)).2.2.2⟩, fun h => absurd rfl h⟩⟩
    · have := set_any s j r A r.its.length c W hh hok hx (by omega)
      rw [h, hg] at this
      exact this.mono fun q w' ⟨hq, v, ht⟩ => ⟨hq, v, by simpa using ht⟩
    · have hb : (s.put j r v).bytes j = rowB r := by unfold RlS.bytes; rw [(h1 v).2.1, (h1 v).2.2.1]; rfl
      exact (bytes_len (s.put j r v) g hg j (h1 v).1 _ (by rw [hb]) W hh).mono fun q w' ⟨A, c, hq, ht⟩ => ⟨A, c, hq, ht.chg.mono fun _ _ h => h⟩
    · have hb : (s.put j r (.bool false)).bytes j = rowB r := by unfold RlS.bytes; rw [(h1 (.bool false)).2.1, (h1 (.bool false)).2.2.1]; rfl
      have := bytes_few (h1 (.bool false)).1 j
      rw [hb, (h1 (.bool false)).2.1] at this
      exact this
  · refine ⟨fun _ => s, s.setE j r, s.has j, s.has j, s.last j, s.last j, (s.bytes j).length, ⟨fun W h => last_at s g hg j hok _ _ rfl rfl W h, fun A c W hh hx => ?_, fun v W hh => last_at s g hg j hok _ _ rfl rfl W hh, fun v W hh => ?_, fun v => ⟨hok, hg⟩, by have := last_len hok j; omega, bytes_few hok j, fun he => absurd he h, fun _ => ⟨rfl, rfl, fun ⟨a1, a2, a3, a4, a5, a6, a7, a8⟩ => h ((hs (.bool false)).2 a1 a2 a3 a4 a5 a6 (List.eq_nil_of_length_eq_zero a7) a8)⟩⟩⟩
    · have := set_any s j r A r.its.length c W hh hok hx (by omega)
      simp only [if_neg h] at this
      rw [hg] at this
      exact this
    · exact (bytes_len s g hg j hok _ rfl W hh).mono fun q w' ⟨A, c, hq, ht⟩ => ⟨A, c, hq, ht.chg.mono fun _ _ h => h⟩
theorem irow_src {w W : World} {O : Hp.Own} {A : Option Addr} {n c : Nat} {xs : List ByteArray} (h : Turns w W O (irow (.slice A n c) xs)) (hn : xs.length = n) : Src W (.slice A n c) n 1 (xs.map Value.string) := by
  subst hn
  exact Src.of_own (show W.ownsRow 0 9 1 (.slice A xs.length c) xs.length (xs.map Value.string) from h.now)
theorem ints_at {w : World} {A : Option Addr} {n c : Nat} {ks : List Int} (h : SlR 1 8 (IntR .i64) w [.slice A n c] ks) {i : Nat} (hi : i < ks.length) : ∃ b off, A = some ⟨b, off, none⟩ ∧ b < w.heap.size ∧ (Lit.int .i64 ks[i]).wf = true ∧ w.cell? ⟨b, off + i, none⟩ = some (.int .i64 ks[i]) := by
  obtain ⟨b, off, h1, h2, ds, h3, ⟨h4, h5⟩, h6⟩ := h.at_ hi
  subst h4
  exact ⟨b, off, h1, h2, h5, by simpa using h6 0 _ rfl⟩
theorem same_at (a1 a2 a3 a4 b1 b2 b3 b4 : Int) (xs ys : List ByteArray) (A B : Option Addr) (n c m d : Nat) (w : World) (hx : Src w (.slice A n c) n 1 (xs.map Value.string)) (hy : Src w (.slice B m d) m 1 (ys.map Value.string)) (hn : n ≤ 140737488351232) :
    Calls Try.prog 44 #[.agg #[.int .i64 a1, .int .i64 a2, .int .i64 a3, .int .i64 a4, .slice A n c], .agg #[.int .i64 b1, .int .i64 b2, .int .i64 b3, .int .i64 b4, .slice B m d]] w (sameP ⟨a1, a2, a3, a4, xs⟩ ⟨b1, b2, b3, b4, ys⟩ w) :=
  sameRow_any ⟨a1, a2, a3, a4, xs⟩ ⟨b1, b2, b3, b4, ys⟩ A B n c m d w hx hy (by omega)
set_option maxHeartbeats 4000000 in
theorem rises_any (A1 A2 : Option Addr) (n1 n2 c1 c2 : Nat) (ks : List Int) (l : List RwA) (w : World) (hk : SlR 1 8 (IntR .i64) w [.slice A1 n1 c1] ks) (hl : SlR 5 56 RowR w [.slice A2 n2 c2] l) (hb : n1 ≤ 140737488351232) (hb2 : n2 ≤ 140737488351232) :
    Calls Try.prog 10 #[.slice A1 n1 c1, .slice A2 n2 c2] w fun e w' => e = .returned (.bool true) ∧ Below w.heap.size w w' := by
  have HK := Lib.hid hk
  have HL := Lib.hid hl
  have HK2 := Lib.hid (hk.src (Value.int .i64) (fun w cs x h => h.1)).1
  have HL2 := Lib.hid (show l.length = n2 from by obtain ⟨A, c, h1, _⟩ := hl.form; simp only [List.cons.injEq, Value.slice.injEq, and_true] at h1; exact h1.2.1.symm)
  have HNW := Lib.hid (fun W => new_any W)
  have HSH := Lib.hid (fun W => shown_any W)
  clear hk hl
  go_enter Try.func10, Try.ntmps10
  go_wp2_with (first
    | (go_at_call 12; (with_reducible refine (HSH.out _).mono ?_); rintro e w1 ⟨rfl, hc1⟩; have HC1 := Lib.hid hc1; clear hc1)
    | (go_at_call 39; (with_reducible refine (HNW.out _).mono ?_); rintro e w2 ⟨g, rfl, ht2⟩; have HT2 := Lib.hid ((Turns.of_kept (O := Hp.Own.emp) (w := w) trivial HC1.out).trans ht2); clear ht2))
  go_loopw [7] (fun x7 wr => ∃ (i : Nat) (s : RlS), x7 = .int .i64 i ∧ i ≤ n2 ∧ s.g = g ∧ s.ok ∧ Turns w wr Hp.Own.emp s.own) (fun x7 _ => n2 - (intOf x7).toNat)
  case atStart => exact ⟨0, RlS.new g, rfl, Nat.zero_le _, rfl, new_ok g, HT2.out⟩
  case round =>
    clear HT2 HC1 HSH
    obtain ⟨i, s, rfl, hi, hg, hok, ht⟩ := hrel
    have HT := Lib.hid ht
    have HG := Lib.hid hg
    have HO := Lib.hid hok
    clear ht hg hok
    by_cases hlt : i < n2
    · have hd : decide ((i : Int) < (n2 : Int)) = true := by simp; omega
      have hd' : decide (i < n2) = true := by simpa using hlt
      obtain ⟨b, off, rfl, hbl, ds, dl, dr, dc⟩ := HL.out.at_ (i := i) (by rw [HL2.out]; exact hlt)
      obtain ⟨r, hr⟩ : ∃ r, l[i]'(by rw [HL2.out]; exact hlt) = r := ⟨_, rfl⟩
      rw [hr] at dr
      clear hr
      obtain ⟨B, d, rfl, hsrc, hrb⟩ := dr
      have HF := Lib.hid (fun W (hc : Chg (fun _ => False) w W) => show (W.cell? ⟨b, off + i * 5, none⟩ = some (.int .i64 r.num) ∧ W.cell? ⟨b, off + i * 5 + 1, none⟩ = some (.int .i64 r.at_) ∧ W.cell? ⟨b, off + i * 5 + 2, none⟩ = some (.int .i64 r.code) ∧ W.cell? ⟨b, off + i * 5 + 3, none⟩ = some (.int .i64 r.n) ∧ W.cell? ⟨b, off + i * 5 + 4, none⟩ = some (.slice B r.its.length d)) ∧ Src W (.slice B r.its.length d) r.its.length 1 (r.its.map Value.string) from
        ⟨⟨(hc.cell (p := ⟨b, off + i * 5, none⟩) hbl (fun h => h)).trans (dc 0 _ rfl), (hc.cell (p := ⟨b, off + i * 5 + 1, none⟩) hbl (fun h => h)).trans (dc 1 _ rfl), (hc.cell (p := ⟨b, off + i * 5 + 2, none⟩) hbl (fun h => h)).trans (dc 2 _ rfl), (hc.cell (p := ⟨b, off + i * 5 + 3, none⟩) hbl (fun h => h)).trans (dc 3 _ rfl), (hc.cell (p := ⟨b, off + i * 5 + 4, none⟩) hbl (fun h => h)).trans (dc 4 _ rfl)⟩, Src.keep0 hsrc hc⟩)
      clear dl dc hsrc
      have hsel : ∃ j, j < 8 ∧ ((i < n1 ∧ ∃ b1 off1 k, A1 = some ⟨b1, off1, none⟩ ∧ b1 < w.heap.size ∧ w.cell? ⟨b1, off1 + i, none⟩ = some (.int .i64 k) ∧ ∀ W, Calls Try.prog 40 #[.int .i64 k, .int .i64 8] W fun e w' => e = .returned (.int .i64 (j : Nat)) ∧ W = w') ∨ (¬ i < n1 ∧ j = 0)) := by
        by_cases h : i < n1
        · obtain ⟨b1, off1, h1, h2, h3, h4⟩ := ints_at HK.out (i := i) (by rw [HK2.out]; exact h)
          exact ⟨_, pickI_lt _ (by decide), Or.inl ⟨h, b1, off1, _, h1, h2, h4, fun W => pick_any _ 8 W h3 (by decide) (by decide)⟩⟩
        · exact ⟨0, by decide, Or.inr ⟨h, rfl⟩⟩
      obtain ⟨j, hj, hsel⟩ := hsel
      obtain ⟨S, e, was, is, old, x, L, R⟩ := round_says s g j r HG.out HO.out hj hrb
      have HR1 := R.last1
      have HR2 := R.set
      have HR3 := R.last2
      have HR4 := R.bytes
      have HR5 := Lib.hid R.ok
      have HOL := Lib.hid (show old.its.length ≤ 140737488351232 from R.oldb)
      obtain ⟨hL6, hisL⟩ := R.few
      have hcase : (e = 0 ∧ is = true ∧ x = r ∧ (was = true → old.num < r.num ∧ old.at_ < r.at_)) ∨ (e ≠ 0 ∧ is = was ∧ x = old ∧ ¬ (1 ≤ r.num ∧ 1 ≤ r.at_ ∧ r.num ≤ 1099511627776 ∧ r.at_ ≤ 1099511627776 ∧ r.code = 0 ∧ r.n = 0 ∧ r.its.length = 0 ∧ (was = true → old.num < r.num ∧ old.at_ < r.at_))) := by
        by_cases he : e = 0
        · exact Or.inl ⟨he, R.taken he⟩
        · exact Or.inr ⟨he, R.left he⟩
      clear R
      obtain ⟨jj, hjj⟩ : ∃ z : Int, ((j : Nat) : Int) = z := ⟨_, rfl⟩
      rw [hjj] at HR1 HR2 HR3 HR4 hsel
      have HR1 := Lib.hid HR1
      have HR2 := Lib.hid HR2
      have HR3 := Lib.hid HR3
      have HR4 := Lib.hid HR4
      have hsel2 : (i < n1 ∧ ∃ b1 off1 k, A1 = some ⟨b1, off1, none⟩ ∧ b1 < w.heap.size ∧ w.cell? ⟨b1, off1 + i, none⟩ = some (.int .i64 k) ∧ ∀ W, Calls Try.prog 40 #[.int .i64 k, .int .i64 8] W fun e w' => e = .returned (.int .i64 jj) ∧ W = w') ∨ (¬ i < n1 ∧ jj = 0) := by
        rcases hsel with h | ⟨h, h2⟩
        · exact Or.inl h
        · exact Or.inr ⟨h, by omega⟩
      clear hsel hjj
      have hLL : (is = true ∧ 0 < L) ∨ (is = false ∧ L = 0) := by
        cases is
        · right; exact ⟨rfl, by have := hisL.symm; simp at this; omega⟩
        · left; exact ⟨rfl, by simpa using hisL.symm⟩
      clear hisL
      go_upto_if 44 with fail
      go_cut [8] (fun s8 wx => s8 = .int .i64 jj ∧ wr = wx)
      case first =>
        rcases hsel2 with ⟨hin, b1, off1, k, rfl, hb1, hck, hpk⟩ | ⟨hin, rfl⟩
        · have hin' : decide ((i : Int) < (n1 : Int)) = true := by simp; omega
          have hin2 : decide (i < n1) = true := by simpa using hin
          have HPK := Lib.hid hpk
          have hck' := (show wr.cell? ⟨b1, off1 + i, none⟩ = w.cell? ⟨b1, off1 + i, none⟩ from HT.out.chg.cell (p := ⟨b1, off1 + i, none⟩) hb1 (fun h => h)).trans hck
          clear hpk hck
          go_wp2_with (go_at_call 40; (with_reducible refine (HPK.out _).mono ?_); rintro e w3 ⟨rfl, rfl⟩)
          go_meet
          exact ⟨rfl, rfl⟩
        · have hin' : decide ((i : Int) < (n1 : Int)) = false := by simp; omega
          have hin2 : decide (i < n1) = false := by simpa using hin
          go_wp2_with fail
          go_meet
          exact ⟨rfl, rfl⟩
      case rest =>
        obtain ⟨rfl, rfl⟩ := hcut
        clear hsel2
        obtain ⟨r1, r2, r3, r4, rs⟩ := r
        obtain ⟨x1, x2, x3, x4, xs⟩ := x
        obtain ⟨o1, o2, o3, o4, os⟩ := old
        simp only [] at HR1 HR2 HR3 hcase HF hrb
        have HCASE := Lib.hid hcase
        have HXN := Lib.hid (show xs.length ≤ 140737488351232 from by
          rcases HCASE.out with ⟨_, _, h, _⟩ | ⟨_, _, h, _⟩
          · rw [(RwA.mk.inj h).2.2.2.2]; omega
          · rw [(RwA.mk.inj h).2.2.2.2]; exact HOL.out)
        obtain ⟨m, hm⟩ : ∃ m, rs.length = m := ⟨_, rfl⟩
        obtain ⟨mx, hmx⟩ : ∃ m, xs.length = m := ⟨_, rfl⟩
        obtain ⟨mo, hmo⟩ : ∃ m, os.length = m := ⟨_, rfl⟩
        rw [hm] at HR2 HF hrb
        rw [hmx] at HR3
        rw [hmo] at HR1
        have hmb : mx ≤ 140737488351232 := by rw [← hmx]; exact HXN.out
        have HMX := Lib.hid hmx
        have HM := Lib.hid hm
        have HMO := Lib.hid hmo
        clear hm hmx hmo hrb hcase
        go_wp2_with (first | (go_at_call 41; (with_reducible refine (HR1.out _ ?_).mono ?_); exact HT.out.now; rintro e w3 ⟨A3, c3, rfl, ht3⟩; have H1 := Lib.hid ((HT.out.pushT ht3).push #[.int .i64 o1, .int .i64 o2, .int .i64 o3, .int .i64 o4, .slice A3 mo c3] 75); clear ht3; obtain ⟨⟨k0, k1, k2, k3, k4⟩, ksrc⟩ := HF.out _ (H1.out.chg.mono fun _ _ h => h); have KS := Lib.hid ksrc; clear ksrc) | (go_at_call 42; (with_reducible refine (HR2.out _ _ _ ?_ KS.out).mono ?_); exact H1.out.now.2.1.2.1; rintro e w4 ⟨rfl, v4, ht4⟩; have H2 := Lib.hid (H1.out.at2 ht4); clear ht4 k0 k1 k2 k3 k4) | (go_at_call 41; (with_reducible refine (HR3.out v4 _ ?_).mono ?_); exact H2.out.now.2.1.2.1; rintro e w5 ⟨A5, c5, rfl, ht5⟩; have H3 := Lib.hid ((H2.out.pushT ht5).push #[.int .i64 x1, .int .i64 x2, .int .i64 x3, .int .i64 x4, .slice A5 mx c5] 75); clear ht5) | (go_at_call 43; (with_reducible refine (HR4.out v4 _ ?_).mono ?_); exact H3.out.now.2.1.2.1.2.1.2.1; rintro e w6 ⟨A6, c6, rfl, hc6⟩; have H4 := Lib.hid (H3.out.kept hc6); clear hc6; obtain ⟨⟨q0, q1, q2, q3, q4⟩, -⟩ := Blk.five (show Blk w6 _ _ _ from H4.out.now.1); obtain ⟨⟨p0, p1, p2, p3, p4⟩, -⟩ := Blk.five (show Blk w6 _ _ _ from H4.out.now.2.1.2.1.1); have HX := Lib.hid (fun W (hc : Chg (fun _ => False) w6 W) => Src.keep0 (show Src w6 (.slice A5 mx c5) mx 1 (xs.map Value.string) from irow_src (Turns.refl H4.out.now.2.1.1) HMX.out) hc); have HY := Lib.hid (fun W (hc : Chg (fun _ => False) w6 W) => Src.keep0 (show Src w6 (.slice A3 mo c3) mo 1 (os.map Value.string) from irow_src (Turns.refl H4.out.now.2.1.2.1.2.1.1) HMO.out) hc)) | (go_at_call 44; (with_reducible refine (same_at _ _ _ _ _ _ _ _ xs os _ _ _ _ _ _ _ (HX.out _ (Chg.refl _ _)) (HY.out _ (Chg.refl _ _)) hmb).mono ?_); rintro e w7 ⟨qa, rfl, hqa, hc7⟩; have HQA := Lib.hid hqa; clear hqa; have H5 := Lib.hid (H4.out.kept hc7); have HC7 := Lib.hid hc7; clear hc7 q0 q1 q2 q3 q4 p0 p1 p2 p3 p4; obtain ⟨⟨q0, q1, q2, q3, q4⟩, -⟩ := Blk.five (show Blk w7 _ _ _ from H5.out.now.1); obtain ⟨⟨k0, k1, k2, k3, k4⟩, -⟩ := HF.out _ (H5.out.chg.mono fun _ _ h => h)))
        go_region_held3 (fun w' => (w'.cell? ⟨w5.heap.size, 0, none⟩ = some (.int .i64 x1) ∧ w'.cell? ⟨w5.heap.size, 1, none⟩ = some (.int .i64 x2) ∧ w'.cell? ⟨w5.heap.size, 2, none⟩ = some (.int .i64 x3) ∧ w'.cell? ⟨w5.heap.size, 3, none⟩ = some (.int .i64 x4) ∧ w'.cell? ⟨w5.heap.size, 4, none⟩ = some (.slice A5 mx c5)) ∧ w'.cell? ⟨b, off + i * 5, none⟩ = some (.int .i64 r1) ∧ w'.cell? ⟨b, off + i * 5 + 1, none⟩ = some (.int .i64 r2) ∧ w'.cell? ⟨b, off + i * 5 + 2, none⟩ = some (.int .i64 r3) ∧ w'.cell? ⟨b, off + i * 5 + 3, none⟩ = some (.int .i64 r4) ∧ w'.cell? ⟨b, off + i * 5 + 4, none⟩ = some (.slice B m d)) (go_keep) (first | (go_at_call 44; (with_reducible refine (same_at _ _ _ _ _ _ _ _ xs rs _ _ _ _ _ _ _ ?_ ?_ hmb).mono ?_); exact HX.out _ (HC7.out.trans ((Chg.refl _ _).drewN _)); exact (HF.out _ ((H5.out.drewN _).chg.mono fun _ _ h => h)).2; rintro e w8 ⟨qb, rfl, hqb, hc8⟩; have HQB := Lib.hid hqb; clear hqb; have H6 := Lib.hid ((H5.out.drewN _).kept hc8); clear hc8 q0 q1 q2 q3 q4 k0 k1 k2 k3 k4; obtain ⟨⟨q0, q1, q2, q3, q4⟩, -⟩ := Blk.five (show Blk w8 _ _ _ from H6.out.now.1); obtain ⟨⟨p0, p1, p2, p3, p4⟩, -⟩ := Blk.five (show Blk w8 _ _ _ from H6.out.now.2.1.2.1.1); obtain ⟨⟨k0, k1, k2, k3, k4⟩, -⟩ := HF.out _ (H6.out.chg.mono fun _ _ h => h)))
        clear q4 p4 k4 p3 q3
        go_upto_region 17 with fail
        go_cut [107] (fun s107 wx => s107 = .bool false ∧ w8 = wx)
        case first =>
          as_aux_lemma =>
            rcases HCASE.out with ⟨rfl, his, hx, hw⟩ | ⟨he, _⟩
            · subst his
              have hqb := HQB.out hx
              subst hqb
              obtain ⟨rfl, rfl, -, -, -⟩ := RwA.mk.inj hx
              cases was
              · go_wp2_with fail
                go_meet
                exact ⟨rfl, rfl⟩
              · obtain ⟨h1, h2⟩ := hw rfl
                have e1 : decide (x1 ≤ o1) = false := by simp; omega
                have e2 : decide (x2 ≤ o2) = false := by simp; omega
                go_wp2_with fail
                go_meet
                exact ⟨rfl, rfl⟩
            · have e1 : (e == 0) = false := by simpa using he
              go_wp2_with fail
              go_meet
              exact ⟨rfl, rfl⟩
        case rest =>
          as_aux_lemma =>
            obtain ⟨rfl, rfl⟩ := hcut
            clear q0 q1 q2 p2
            go_upto_region 19 with fail
            go_cut [130] (fun s130 wx => s130 = .bool false ∧ w8 = wx)
            case first =>
              as_aux_lemma =>
                have eb : decide ((L : Int) ≥ 600) = false := by simp; omega
                have hLL2 : ∃ b : Bool, is = b ∧ decide ((L : Int) > 0) = b ∧ decide (0 < L) = b := by
                  rcases hLL with ⟨h1, h2⟩ | ⟨h1, h2⟩
                  · exact ⟨true, h1, by simp; omega, by simp; omega⟩
                  · exact ⟨false, h1, by simp; omega, by simp; omega⟩
                clear hLL
                obtain ⟨bb, rfl, ec, ed⟩ := hLL2
                rcases HCASE.out with ⟨rfl, rfl, hx, hw⟩ | ⟨he, his, hx, _⟩
                · go_wp2_with fail
                  go_meet
                  exact ⟨rfl, rfl⟩
                · subst his
                  have hqa := HQA.out hx
                  subst hqa
                  have e1 : (e != 0) = true := by simpa using he
                  have e2 : (is != is) = false := by simp
                  go_wp2_with fail
                  go_meet
                  exact ⟨rfl, rfl⟩
            case rest =>
              as_aux_lemma =>
                obtain ⟨rfl, rfl⟩ := hcut
                go_upto_region 21 with fail
                go_cut [17] (fun s17 wx => ∃ ah : Bool, s17 = .bool ah ∧ (ah = true → 1 ≤ r1 ∧ 1 ≤ r2 ∧ r1 ≤ 1099511627776 ∧ r2 ≤ 1099511627776 ∧ r3 = 0 ∧ r4 = 0 ∧ m = 0) ∧ w8 = wx)
                case first =>
                  as_aux_lemma =>
                    have hmz : ((m : Int) == 0) = true ∨ ((m : Int) == 0) = false := by cases h : ((m : Int) == 0) <;> simp
                    go_wp2_with fail
                    all_goals
                      go_meet
                      first
                        | exact ⟨false, rfl, (fun h => by cases h), rfl⟩
                        | exact ⟨_, rfl, fun h => ⟨by omega, by omega, by omega, by omega, by omega, by omega, by simp at h; omega⟩, rfl⟩
                case rest =>
                  as_aux_lemma =>
                    obtain ⟨ah, rfl, hah, rfl⟩ := hcut
                    have hgo : (ah = false ∧ True) ∨ (ah = true ∧ ((was = false ∧ (e != 0) = false) ∨ (was = true ∧ (decide (o1 < r1) = false ∨ (decide (o1 < r1) = true ∧ decide (o2 < r2) = false) ∨ (decide (o1 < r1) = true ∧ decide (o2 < r2) = true ∧ (e != 0) = false))))) := by
                      cases ah
                      · exact Or.inl ⟨rfl, trivial⟩
                      · right
                        obtain ⟨a1, a2, a3, a4, a5, a6, a7⟩ := hah rfl
                        refine ⟨rfl, ?_⟩
                        rcases HCASE.out with ⟨rfl, _, _, hw⟩ | ⟨he, _, _, hna⟩
                        · cases was
                          · exact Or.inl ⟨rfl, by simp⟩
                          · have := hw rfl
                            exact Or.inr ⟨rfl, Or.inr (Or.inr ⟨by simp; omega, by simp; omega, by simp⟩)⟩
                        · cases was
                          · exact absurd ⟨a1, a2, a3, a4, a5, a6, HM.out.trans a7, (fun h => by cases h)⟩ hna
                          · right
                            refine ⟨rfl, ?_⟩
                            by_cases h1 : o1 < r1
                            · by_cases h2 : o2 < r2
                              · exact absurd ⟨a1, a2, a3, a4, a5, a6, HM.out.trans a7, fun _ => ⟨h1, h2⟩⟩ hna
                              · exact Or.inr (Or.inl ⟨by simpa using h1, by simpa using h2⟩)
                            · exact Or.inl (by simpa using h1)
                    clear hah
                    rcases hgo with ⟨rfl, _⟩ | ⟨rfl, ⟨rfl, e1⟩ | ⟨rfl, e1 | ⟨e1, e2⟩ | ⟨e1, e2, e3⟩⟩⟩
                    all_goals
                      go_upto_region 22 with fail
                      go_quiet (fail)
                      go_wp2_with fail
                      go_roundw
                      case rel => exact ⟨i + 1, S v4, by simp, by omega, (HR5.out v4).2, (HR5.out v4).1, (H6.out.dropL.dropL.dropL.dropL).drewN _⟩
                      case measure => simp [intOf]; omega
    · have hd : decide ((i : Int) < (n2 : Int)) = false := by simp; omega
      have hd' : decide (i < n2) = false := by simpa using hlt
      obtain ⟨hbok, hbs⟩ := (fun (g2 : Nat) v => back_s HO.out g2 v) |> fun h => (⟨Lib.hid h, trivial⟩ : Hid _ ∧ True)
      have HALL := Lib.hid (back_all HO.out)
      have HRW := Lib.hid (fun W hs => rows_any s g HG.out W hs HO.out)
      have HLEN := Lib.hid (fun (k : Nat) => (bytes_few HO.out k).1)
      have HLD := Lib.hid (fun A c W (h : L2 W (.slice A 8 c) (bytesL s)) => load_any A 8 c (bytesL s) W h)
      unfold loadP at HLD
      rw [HALL.out] at HLD
      simp only [if_true] at HLD
      go_wp2_with (first
        | (go_at_call 46; (with_reducible refine (HRW.out _ ?_).mono ?_); exact HT.out.now; rintro e w3 ⟨A3, c3, f3, rfl, ht3⟩; have HT3 := Lib.hid ht3; clear ht3)
        | (go_at_call 45; (with_reducible refine (HLD.out _ _ _ ?_).mono ?_); exact LL.l2 HT3.out.now (fun i hi => by have := HLEN.out i; omega); rintro e w4 ⟨g2, v2, rfl, ht4⟩; have HT4 := Lib.hid ht4; clear ht4))
      have HC4 := Lib.hid (show Chg (fun _ => False) wr w4 from (HT3.out.chg.mono fun _ _ h => h).trans (HT4.out.chg.mono fun _ _ h => h))
      have HS4 := Lib.hid (show s.own.holds w4 from Own.chg HT.out.now HC4.out (fun _ _ h => h))
      have HCW := Lib.hid (show Chg (fun _ => False) w w4 from (HT.out.chg.mono fun _ _ h => h).trans HC4.out)
      obtain ⟨t, ht⟩ : ∃ t, t = ldS g2 (bytesL s) 8 v2 := ⟨_, rfl⟩
      have HTB := hbok.out g2 v2
      rw [← ht] at HTB
      have HTO := HT4.out.now
      rw [← ht] at HTO
      have HTO := Lib.hid HTO
      have HTG := Lib.hid (show t.g = g2 from by rw [ht]; rfl)
      have HTB := Lib.hid HTB
      clear ht HT3 HT4 HC4 HT hbok hbs HALL HRW HLD HLEN hlt hd hd' HNW
      obtain ⟨wo, rfl⟩ : ∃ wo : World, wo = wr := ⟨_, rfl⟩
      go_loopw [20] (fun x20 w' => ∃ k : Nat, x20 = .int .i64 k ∧ k ≤ 8 ∧ Chg (fun _ => False) w4 w') (fun x20 _ => 8 - (intOf x20).toNat)
      case atStart => exact ⟨0, rfl, Nat.zero_le _, Chg.refl _ _⟩
      case round =>
        obtain ⟨k, rfl, hk, hc⟩ := hrel
        have HC := Lib.hid hc
        clear hc
        by_cases hlt : k < 8
        · have hd : decide ((k : Int) < 8) = true := by simp; omega
          have hd' : decide (k < 8) = true := by simpa using hlt
          obtain ⟨hh, hl, hbb⟩ := HTB.out.2 k hlt
          have HL1 := Lib.hid (fun W (hc : Chg (fun _ => False) w4 W) => last_at s g HG.out k HO.out _ _ rfl rfl W (Own.chg HS4.out hc (fun _ _ h => h)))
          have HL2' := Lib.hid (fun W (hc : Chg (fun _ => False) w4 W) => last_at t g2 HTG.out k HTB.out.1 _ _ hl hh W (Own.chg HTO.out hc (fun _ _ h => h)))
          have HB1 := Lib.hid (fun W (hc : Chg (fun _ => False) w4 W) => bytes_len s g HG.out k HO.out _ rfl W (Own.chg HS4.out hc (fun _ _ h => h)))
          have HB2 := Lib.hid (fun W (hc : Chg (fun _ => False) w4 W) => bytes_len t g2 HTG.out k HTB.out.1 _ (by rw [hbb]) W (Own.chg HTO.out hc (fun _ _ h => h)))
          rw [hbb] at HB2
          have hxl := last_len HO.out k
          clear hh hl hbb
          generalize s.last k = x at *
          generalize s.has k = b at *
          generalize s.bytes k = bs at *
          obtain ⟨x1, x2, x3, x4, xs⟩ := x
          simp only [] at HL1 HL2' hxl
          obtain ⟨m, hm⟩ : ∃ m, xs.length = m := ⟨_, rfl⟩
          rw [hm] at HL1 HL2' hxl
          have HM := Lib.hid hm
          have hmb : m ≤ 140737488351232 := by omega
          obtain ⟨L, hL⟩ : ∃ m, bs.length = m := ⟨_, rfl⟩
          rw [hL] at HB1 HB2
          have HBL := Lib.hid hL
          clear hm hL hxl
          have e1 : (b != b) = false := by simp
          go_wp2_with (first
            | (go_at_call 41; (with_reducible refine (HL1.out _ ?_).mono ?_); exact HC.out; rintro e w5 ⟨A5, c5, rfl, ht5⟩; have H1 := Lib.hid (((Turns.of_kept (O := Hp.Own.emp) trivial HC.out).pushT ht5).push #[.int .i64 x1, .int .i64 x2, .int .i64 x3, .int .i64 x4, .slice A5 m c5] 75); clear ht5)
            | (go_at_call 41; (with_reducible refine (HL2'.out _ ?_).mono ?_); exact (H1.out.chg.mono fun _ _ h => h); rintro e w6 ⟨A6, c6, rfl, ht6⟩; have H2 := Lib.hid ((H1.out.pushT ht6).push #[.int .i64 x1, .int .i64 x2, .int .i64 x3, .int .i64 x4, .slice A6 m c6] 75); clear ht6; obtain ⟨⟨q0, q1, q2, q3, q4⟩, -⟩ := Blk.five (show Blk _ _ _ _ from H2.out.now.1); obtain ⟨⟨p0, p1, p2, p3, p4⟩, -⟩ := Blk.five (show Blk _ _ _ _ from H2.out.now.2.1.2.1.1))
            | (go_at_call 44; (with_reducible refine (same_at _ _ _ _ _ _ _ _ xs xs _ _ _ _ _ _ _ ?_ ?_ hmb).mono ?_); exact irow_src (Turns.refl H2.out.now.2.1.2.1.2.1.1) HM.out; exact irow_src (Turns.refl H2.out.now.2.1.1) HM.out; rintro e w7 ⟨qa, rfl, hqa, hc7⟩; obtain rfl : qa = true := hqa rfl; have H3 := Lib.hid (show Chg (fun _ => False) w4 w7 from (H2.out.chg.mono fun _ _ h => h).trans hc7); clear hqa hc7)
            | (go_at_call 43; (with_reducible refine (HB1.out _ H3.out).mono ?_); rintro e w8 ⟨A8, c8, rfl, ht8⟩; have H4 := Lib.hid ((Turns.of_kept (O := Hp.Own.emp) trivial H3.out).pushT ht8); clear ht8)
            | (go_at_call 43; (with_reducible refine (HB2.out _ ?_).mono ?_); exact (H4.out.chg.mono fun _ _ h => h); rintro e w9 ⟨A9, c9, rfl, ht9⟩; have H5 := Lib.hid (H4.out.pushT ht9); clear ht9)
            | (go_at_call 47; (with_reducible refine (same_any _ _ _ _ _ _ bs bs _ ?_ ?_).mono ?_); exact Src.of_own (show World.ownsRow _ 0 5 1 _ _ _ from H5.out.now.2.1.1); exact Src.of_own (show World.ownsRow _ 0 5 1 _ _ _ from H5.out.now.1); rintro e w10 ⟨qb, rfl, hqb, rfl⟩; obtain rfl : qb = true := hqb rfl; clear hqb))
          go_roundw
          case rel => exact ⟨k + 1, by simp, by omega, H5.out.chg.mono fun _ _ h => h⟩
          case measure => simp [intOf]; omega
        · have hd : decide ((k : Int) < 8) = false := by simp; omega
          have hd' : decide (k < 8) = false := by simpa using hlt
          go_wp2_with fail
          go_ret
          exact ⟨rfl, (HCW.out.trans HC.out).below (fun _ h => h.elim) (Nat.le_refl _)⟩
theorem rises_arg (v0 v1 : Value) (w : World) (h0 : ArgOk Try.prog w 57 v0) (h1 : ArgOk Try.prog w 67 v1) : Calls Try.prog 10 #[v0, v1] w fun e w' => e = .returned (.bool true) ∧ Below w.heap.size w w' := by
  obtain ⟨A1, n1, c1, ks, rfl, hk, hks, hb⟩ := h0.slR (R := IntR .i64) Try.underlying57 Try.cells_int (by decide) Try.bytes_int (fun ds h => h.intR Try.underlying3)
  obtain ⟨A2, n2, c2, l, rfl, hl, hls, hb2⟩ := h1.slR (R := RowR) Try.underlying67 Try.cells_row (by decide) Try.bytes_row (fun ds h => row_open h)
  exact rises_any A1 A2 n1 n2 c1 c2 ks l w hks hls (by omega) (by omega)
end Go.Proofs.Ytkpgdonpmfebaaa.Rl
