/- BitsBack, walked. -/
import Derived.Test.YtkpgdonpmfebaaaBlK
import Derived.Test.YtkpgdonpmfebaaaBnSh
namespace Go.Proofs.Ytkpgdonpmfebaaa.Bt
open Go.RowKit Go.Hp
attribute [local go_sem] min2_lean min_two max2_lean max_two
set_option linter.unusedSimpArgs false
set_option linter.unusedVariables false
set_option maxRecDepth 100000
theorem ItemsAt.load {w wr : World} {A : Option Addr} {its : List ItA} (h : ItemsAt w A its) (hc : Chg (fun _ => False) w wr) (i : Nat) (hi : i < its.length) : its[i].fits ∧ ∃ b off, A = some ⟨b, off, none⟩ ∧
    wr.cell? ⟨b, off + i * 4, none⟩ = some (.int .i64 its[i].kind) ∧ wr.cell? ⟨b, off + i * 4 + 1, none⟩ = some (.int .i64 its[i].n) ∧ wr.cell? ⟨b, off + i * 4 + 2, none⟩ = some (.bool its[i].v) ∧ wr.cell? ⟨b, off + i * 4 + 3, none⟩ = some (.string its[i].s) := by
  obtain ⟨hf, b, off, hA, hb, hcell⟩ := h i hi
  have hcw : ∀ p u, w.cell? p = some u → wr.cell? p = some u := fun p u hp => (hc.cell (block_lt_of_cell hp) (fun h => h)).trans hp
  exact ⟨hf, b, off, hA, hcw _ _ (hcell 0 _ rfl), hcw _ _ (hcell 1 _ rfl), hcw _ _ (hcell 2 _ rfl), hcw _ _ (hcell 3 _ rfl)⟩
/-- A cell of a row. -/
theorem row_cell {w : World} {A : Option Addr} {n c : Nat} {E : TypeId} {xs : List Value} (h : w.ownsRow 0 E 1 (.slice A n c) n xs) (j : Nat) (u : Value) (hu : xs[j]? = some u) : ∃ g, A = some ⟨g, 0, none⟩ ∧ w.cell? ⟨g, j, none⟩ = some u := by
  have hj : j < xs.length := (List.getElem?_eq_some_iff.1 hu).1
  obtain ⟨g, cap, hv, _, _⟩ := row_form h (by have := h.1; omega)
  obtain ⟨rfl, _, rfl⟩ : A = some ⟨g, 0, none⟩ ∧ n = n ∧ c = cap := by simpa using hv
  refine ⟨g, rfl, ?_⟩
  have := World.ownsRow.cells (g := g) h rfl j u hu
  have ha : (⟨g, 0, none⟩ : Addr).add j = ⟨g, j, none⟩ := by unfold Addr.add; split <;> simp_all
  rwa [ha] at this
theorem endsC_get (its : List ItA) (L i : Nat) (h : i < L) : (endsC its L)[i]? = some (.int .i64 ((encs (its.take (i + 1))).length : Int)) := by
  unfold endsC
  simp [h]
theorem encs_split (its : List ItA) (i : Nat) (h : i < its.length) : ∃ rest, (encs its).drop (encs (its.take i)).length = enc its[i].right ++ rest := by
  refine ⟨encs (its.drop (i + 1)), ?_⟩
  have e : encs its = encs (its.take i) ++ (enc its[i].right ++ encs (its.drop (i + 1))) := by
    rw [← List.append_assoc, ← encs_take its i h]
    unfold encs
    rw [← List.flatten_append, ← List.map_append, List.take_append_drop]
  rw [e, List.drop_left]
theorem encs_part (its : List ItA) (i : Nat) : (encs (its.take i)).length ≤ (encs its).length := by
  have e : encs its = encs (its.take i) ++ encs (its.drop i) := by
    unfold encs
    rw [← List.flatten_append, ← List.map_append, List.take_append_drop]
  rw [e, List.length_append]
  omega
/-- 'back', of a reader given in its parts. -/
theorem back_at (g : Nat) (v : Value) (bs : List UInt8) (a a' : Nat) (x : ItA) (rest : List UInt8) (w : World) (hs : (RdS.mk g v bs a 0).own.holds w) (ha : a ≤ bs.length) (hl : bs.length ≤ 140737488355328) (hx : x.right.fits ∧ x.right.s = x.s ∧ 1 ≤ x.right.kind ∧ x.right.kind ≤ 5 ∧ (x.right.kind = 1 → 0 ≤ x.right.n))
    (hd : bs.drop a = enc x.right ++ rest) (ha' : a + (enc x.right).length = a') :
    Calls Try.prog 37 #[.pointer (some ⟨g, 0, none⟩), .agg x.right.cells] w fun q w' => q = .returned (.bool true) ∧ Turns w w' (RdS.mk g v bs a 0).own (RdS.mk g v bs a' 0).own := by
  subst ha'
  exact back_any (RdS.mk g v bs a 0) x.right rest w hs ⟨ha, hl⟩ rfl hx.1 hx.2.2.1 hx.2.2.2.1 hx.2.2.2.2 hd
theorem newR_at (A : Option Addr) (c n : Nat) (bs : List UInt8) (w : World) (hn : bs.length = n) (hx : Src w (.slice A n c) n 1 (bs.map bv)) (hl : n ≤ 140737488355328) :
    Calls Try.prog 25 #[.slice A n c] w fun q w' => ∃ g v, q = .returned (.pointer (some ⟨g, 0, none⟩)) ∧ Turns w w' Own.emp (RdS.mk g v bs 0 0).own := by
  subst hn
  refine (newR_any A c bs w hx hl).mono ?_
  rintro q w' ⟨g, rfl, ht⟩
  exact ⟨g, _, rfl, ht⟩
theorem laid_at (A : Option Addr) (its : List ItA) (cap L N : Nat) (w : World) (hi : ItemsAt w A its) (ht : tot its < 2147483648) (hL : its.length = L) (hN : (encs its).length = N) :
    Calls Try.prog 36 #[.slice A L cap] w fun r w' => ∃ Ao co Av cv, r = .returned (.tuple #[.slice Ao N co, .slice Av L cv, .bool true]) ∧
      Turns w w' Own.emp (Own.both (Own.row 5 1 (.slice Ao N co) N ((encs its).map bv)) (Own.row 3 1 (.slice Av L cv) L (endsC its L))) := by
  subst hL hN
  refine (laid_any A its cap w hi ht).mono ?_
  rintro r w' ⟨o, v, rfl, ht⟩
  obtain ⟨Ao, co, rfl⟩ := row_slice ht.now.1
  obtain ⟨Av, cv, rfl⟩ := row_slice ht.now.2.1
  exact ⟨Ao, co, Av, cv, rfl, ht⟩
def BackPost (w : World) (e : Ending) (w' : World) : Prop := e = .returned (.bool true) ∧ Below w.heap.size w w'
set_option maxHeartbeats 1000000 in
theorem bitsBack_any (A : Option Addr) (its : List ItA) (cap : Nat) (w : World) (hi : ItemsAt w A its) (hl : its.length * 40 ≤ 140737488351232) :
    Calls Try.prog 8 #[.slice A its.length cap] w (BackPost w) := by
  have HB := Lib.hid (beyond_any A its cap w hi hl)
  have HI := Lib.hid hi
  have hkeep : Hid (∀ W, Chg (fun _ => False) w W → ItemsAt W A its) := fun W hc i h => by
    obtain ⟨hf, b, off, hA, hb, hcell⟩ := hi i h
    exact ⟨hf, b, off, hA, Nat.lt_of_lt_of_le hb hc.size, fun j u hu => (hc.cell (block_lt_of_cell (hcell j u hu)) (fun h => h)).trans (hcell j u hu)⟩
  obtain ⟨L, hL⟩ : ∃ L, its.length = L := ⟨_, rfl⟩
  rw [hL] at HB hl ⊢
  have HL := Lib.hid hL
  clear hi hL
  obtain ⟨N, hN⟩ : ∃ N, (encs its).length = N := ⟨_, rfl⟩
  have HN := Lib.hid hN
  have hNb : Hid (tot its < 2147483648 → N ≤ 21474836480) := fun ht => by
    have h := encs_len its (fun i h => (HI.out i h).1) its.length (Nat.le_refl _)
    rw [List.take_of_length_le (Nat.le_refl _)] at h
    omega
  have HNb := Lib.hid (show tot its < 2147483648 → N ≤ 21474836480 from hNb.out)
  clear hN hNb
  go_enter Try.func8, Try.ntmps8
  go_wp2_with (first
    | (go_at_call 14; refine HB.out.mono ?_; rintro r w1 ⟨b, rfl, hb, rfl⟩; cases b; (have HBB := Lib.hid (hb rfl); clear hb))
    | (go_at_call 13; refine (shown_any _).mono ?_; rintro r w2 ⟨rfl, hc⟩; have HC := Lib.hid hc; clear hc)
    | (go_at_call 36; (with_reducible refine (laid_at A its cap L N _ (hkeep.out _ HC.out) HBB.out HL.out HN.out).mono ?_); rintro r w3 ⟨Ao, co, Av, cv, rfl, ht⟩; have HT := Lib.hid ht; clear ht)
    | (go_at_call 25; have hnb := HNb.out HBB.out; have hnc : N ≤ 140737488355328 := (by omega); have hq := newR_at Ao co N (encs its) _ HN.out (Src.of_own HT.out.now.1) hnc; (with_reducible refine hq.mono ?_); clear hq hnc; rintro r w4 ⟨g, v, rfl, ht⟩; have HR := Lib.hid ((HT.out.dropL).trans (Turns.add HT.out.dropL.now ht)); clear ht))
  rotate_left
  · go_ret
    exact ⟨rfl, Below.refl _ _⟩
  go_loopw [8] (fun x8 wr => ∃ (i a : Nat), x8 = .int .i64 i ∧ i ≤ L ∧ (encs (its.take i)).length = a ∧ Turns w2 wr Own.emp (Own.both (RdS.mk g v (encs its) a 0).own (Own.row 3 1 (.slice Av L cv) L (endsC its L)))) (fun x8 _ => L - (intOf x8).toNat)
  case atStart => exact ⟨0, 0, rfl, Nat.zero_le _, rfl, HR.out⟩
  case round =>
    obtain ⟨i, a, rfl, hil, ha, ht⟩ := hrel
    have HT2 := Lib.hid ht
    have HA := Lib.hid ha
    have HIL := Lib.hid hil
    clear ht ha
    by_cases h : i < L
    · have hd : decide (i < L) = true := by simpa using h
      have hil : i < its.length := by rw [HL.out]; exact h
      obtain ⟨hf, b, off, rfl, c0, c1, c2, c3⟩ := HI.out.load (HC.out.trans HT2.out.chg) i hil
      have HTK := Lib.hid (encs_take its i hil)
      have HRF := Lib.hid (right_fits hf)
      obtain ⟨rest, hr⟩ := encs_split its i hil
      rw [HA.out] at hr
      have HRS := Lib.hid hr
      have HP := Lib.hid (encs_part its i)
      have HR2 := Lib.hid (fun W => right_any its[i] W hf.2.1.1 hf.2.1.2)
      obtain ⟨a', ha'⟩ : ∃ a', a + (enc its[i].right).length = a' := ⟨_, rfl⟩
      have HA2 := Lib.hid ha'
      obtain ⟨ge, rfl, ce⟩ := row_cell HT2.out.now.2.1 i _ (endsC_get its L i h)
      rw [HTK.out, List.length_append, HA.out, ha'] at ce
      have HCE := Lib.hid ce
      clear hr ha' ce
      have hab : a' ≤ 21474836480 := by
        have h1 := encs_part its (i + 1)
        have h2 := HTK.out
        have h3 := congrArg List.length h2
        rw [List.length_append, HA.out, HA2.out] at h3
        rw [HN.out] at h1
        omega
      have HBK := Lib.hid (fun W hs => back_at g v (encs its) a a' its[i] rest W hs (by rw [← HA.out]; exact HP.out) (by rw [HN.out]; omega) HRF.out HRS.out HA2.out)
      have HAn : Hid ((encs (its.take (i + 1))).length = a') := by show _ = _; rw [HTK.out, List.length_append, HA.out, HA2.out]
      generalize its[i] = it at *
      have hil2 : i < 3518437208780 := by omega
      clear hil hf HRF HRS HP HA2 HTK HA
      obtain ⟨ik, in_, ib, is_⟩ := it
      simp only [] at c0 c1 c2 c3
      generalize hq : ItA.right ⟨ik, in_, ib, is_⟩ = q at *
      clear hq
      simp only [ItA.cells] at HR2
      simp only [ItA.cells] at HBK
      go_wp2_with (first
        | (go_at_call 33; (with_reducible refine (HR2.out _).mono ?_); rintro r w5 ⟨rfl, hc5⟩; have HT5 := Lib.hid (HT2.out.kept hc5); clear hc5)
        | (go_at_call 37; have hq9 := HBK.out _ HT5.out.now.1; (with_reducible refine hq9.mono ?_); clear hq9; rintro r w6 ⟨rfl, ht6⟩; have HT6 := Lib.hid (HT5.out.trans (Turns.left HT5.out.now ht6)); obtain ⟨ge2, hge, ce2⟩ := row_cell HT6.out.now.2.1 i _ (endsC_get its L i h); obtain rfl : ge = ge2 := (by simpa using hge); rw [HAn.out] at ce2)
        | (go_at_call 29; have hq9 := err_any (RdS.mk g v (encs its) a' 0) _ HT6.out.now.1; (with_reducible refine hq9.mono ?_); clear hq9; rintro r w7 ⟨rfl, nd, rfl⟩))
      go_roundw
      case rel => exact ⟨i + 1, a', by simp, by omega, HAn.out, HT6.out.drewN _⟩
      case measure => simp [intOf]; omega
    · have hd : decide (i < L) = false := by simpa using h
      obtain rfl : i = L := by omega
      have htk : its.take i = its := List.take_of_length_le (by rw [HL.out]; exact Nat.le_refl _)
      rw [htk, HN.out] at HA
      have HA2 := HA.out
      subst HA2
      have hcl : (RdS.mk g v (encs its) N 0).closed = RdS.mk g v (encs its) N 0 := by
        rw [RdS.closed, if_neg]; simp only []; rw [HN.out]; omega
      have HCL := Lib.hid hcl
      clear htk hcl
      go_wp2_with (go_at_call 35; have hq9 := close_any (RdS.mk g v (encs its) N 0) _ HT2.out.now.1; (with_reducible refine hq9.mono ?_); clear hq9; rintro r w8 ⟨rfl, ht8⟩; rw [HCL.out] at ht8 ⊢; have HT8 := Lib.hid (HC.out.trans (Turns.end_ (HT2.out.trans (Turns.left HT2.out.now ht8)))); clear ht8)
      go_ret
      exact ⟨rfl, HT8.out.below (fun _ h => h.elim) (Nat.le_refl _)⟩
theorem bitsBack_arg (v : Value) (w : World) (h : ArgOk Try.prog w 23 v) : Calls Try.prog 8 #[v] w fun e w' => e = .returned (.bool true) ∧ Below w.heap.size w w' := by
  obtain ⟨A, its, cap, rfl, hi, hl⟩ := items_open h
  exact bitsBack_any A its cap w hi hl
end Go.Proofs.Ytkpgdonpmfebaaa.Bt
