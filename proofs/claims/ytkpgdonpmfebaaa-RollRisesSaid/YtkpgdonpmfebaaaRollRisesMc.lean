/- Texts of this claim, one behind the other: BnSh, BlW8, BsE, BwL, RlH, Nt, ByL, ByM, ByB, ByR, RlI, RlJ, RlK, RlL, RlM, RlO, RlN, Opn, RlP, RlR. -/
import Derived.Test.YtkpgdonpmfebaaaProg
import Derived.Test.YtkpgdonpmfebaaaRollRisesMb
import Derived.Lib.Zigzag
import Derived.Deep.RegionLaw
/- shown, and the names. -/
namespace Go.Proofs.Ytkpgdonpmfebaaa.Bt
open Go.RowKit Go.Hp
attribute [local go_sem] min2_lean min_two max2_lean max_two
set_option linter.unusedSimpArgs false
set_option linter.unusedVariables false
set_option maxRecDepth 100000

theorem vi300 : vi 300 = [172, 2] := by rw [vi_ge (by omega), vi_lt (by omega)]; rfl
theorem vi127 : vi 127 = [127] := by rw [vi_lt (by omega)]; rfl
theorem vi2 : vi 2 = [2] := by rw [vi_lt (by omega)]; rfl
theorem zz64 : zz (-64) = 127 := by decide
def ab : ByteArray := ⟨#[97, 98]⟩
theorem shown_bytes : ((([] : List UInt8) ++ vi 300) ++ vi (zz (-64))) ++ vi ab.size ++ ab.data.toList = [172, 2, 127, 2, 97, 98] := by
  rw [vi300, zz64, vi127, show ab.size = 2 from rfl, vi2]; rfl
def b3 : List UInt8 := [172, 2, 127]
theorem num300 : numOf 300 13 b3 0 = (300, 2, 0) := by decide
theorem gr64 : gr 10 1 b3 10 0 0 2 = (127, 3, 0) := by decide
theorem uz127 : uz 127 = -64 := by decide
theorem Turns.end_ {w w' : World} {O : Own} (h : Turns w w' Own.emp O) : Chg (fun _ => False) w w' := h.chg.mono fun _ _ hf => hf
set_option maxHeartbeats 2000000 in
theorem shown_any (w : World) : Calls Try.prog 13 #[] w fun r w' => r = .returned (.bool true) ∧ Chg (fun _ => False) w w' := by
  go_enter Try.func13, Try.ntmps13
  go_wp2_with (first
    | (go_at_call 15; refine (newW_any _).mono ?_; rintro r w1 ⟨rfl, ht1⟩; have HT1 := Lib.hid ht1; clear ht1)
    | (go_at_call 59; refine (num_ok (WrS.mk w.heap.size (.slice none 0 0) [] false) 300 _ HT1.out.now (by omega) rfl (by simp)).mono ?_; rintro r w2 ⟨rfl, v2, ht2⟩; have HT2 := Lib.hid (HT1.out.trans ht2); clear ht2)
    | (go_at_call 60; refine (signed_ok (WrS.mk w.heap.size v2 ([] ++ vi 300) false) (-64) _ HT2.out.now (by omega) (by omega) rfl (by rw [vi300]; simp)).mono ?_; rintro r w3 ⟨rfl, v3, ht3⟩; have HT3 := Lib.hid (HT2.out.trans ht3); clear ht3)
    | (go_at_call 61; refine (text_ok (WrS.mk w.heap.size v3 (([] ++ vi 300) ++ vi (zz (-64))) false) ab _ HT3.out.now rfl (by rw [vi300, zz64, vi127]; simp [ab, ByteArray.size])).mono ?_; rintro r w4 ⟨rfl, v4, ht4⟩; have HT4 := Lib.hid (HT3.out.trans ht4); clear ht4)
    | (go_at_call 18; refine (done_ok (WrS.mk w.heap.size v4 ((([] ++ vi 300) ++ vi (zz (-64))) ++ vi ab.size ++ ab.data.toList) false) _ HT4.out.now rfl (by rw [shown_bytes]; simp)).mono ?_; rintro r w5 ⟨o, rfl, ht5, hob⟩; rw [shown_bytes] at ht5; have HT5 := Lib.hid ht5; have HC5 := Lib.hid ((Turns.end_ HT4.out).trans (Turns.end_ ht5)); obtain ⟨go, co, hvo, _, hlo⟩ := row_form ht5.now (by simp); clear ht5 hob; subst hvo)
    | (go_at_call 25; refine (newR_any (some ⟨w5.heap.size, 0, none⟩) 3 b3 _ ⟨rfl, Or.inr ⟨_, _, rfl, fun j u hu => World.news_of_block (heap_alloc_new w5 _) j u hu⟩⟩ (by simp [b3])).mono ?_; rintro r w6 ⟨g, rfl, ht6⟩; have HT6 := Lib.hid ht6; have HC6 := Lib.hid ((HC5.out.alloc _).trans (Turns.end_ ht6)); have HR6 := Lib.hid (Own.chg HT5.out.now (((Chg.refl (fun _ => False) w5).alloc (.cells #[.int .u8 172, .int .u8 2, .int .u8 127] 5)).trans (Turns.end_ ht6)) (fun _ _ h => h)); clear ht6; have o0 := World.ownsRow.cells (g := go) HR6.out rfl 0 _ rfl; have o1 := World.ownsRow.cells (g := go) HR6.out rfl 1 _ rfl; have o2 := World.ownsRow.cells (g := go) HR6.out rfl 2 _ rfl; have o3 := World.ownsRow.cells (g := go) HR6.out rfl 3 _ rfl; have o5 := World.ownsRow.cells (g := go) HR6.out rfl 5 _ rfl; simp [Addr.add, bv] at o0 o1 o2 o3 o5)
    | (go_at_call 38; refine (rnum_ok (RdS.mk g (.slice (some ⟨(w5.alloc (.cells #[.int .u8 172, .int .u8 2, .int .u8 127] 5)).heap.size, 0, none⟩) b3.length b3.length) b3 0 0) 300 _ HT6.out.now rfl (Nat.zero_le _) (by simp [b3])).mono ?_; rintro r w7 ⟨rfl, ht7⟩; rw [num300] at ht7 ⊢; have HT7 := Lib.hid ht7; clear ht7)
    | (go_at_call 62; refine (rsigned_ok (RdS.mk g (.slice (some ⟨(w5.alloc (.cells #[.int .u8 172, .int .u8 2, .int .u8 127] 5)).heap.size, 0, none⟩) b3.length b3.length) b3 2 0) _ HT7.out.now rfl (by simp [b3]) (by simp [b3])).mono ?_; rintro r w8 ⟨rfl, ht8⟩; rw [gr64] at ht8 ⊢; have HT8 := Lib.hid ht8; clear ht8)
    | (go_at_call 35; refine (close_any (RdS.mk g (.slice (some ⟨(w5.alloc (.cells #[.int .u8 172, .int .u8 2, .int .u8 127] 5)).heap.size, 0, none⟩) b3.length b3.length) b3 3 0) _ HT8.out.now).mono ?_; rintro r w9 ⟨rfl, ht9⟩; have HT9 := Lib.hid ht9; clear ht9))
  go_ret
  have h9 := ((HT6.out.trans HT7.out).trans HT8.out).trans HT9.out
  exact ⟨by simp [RdS.closed, b3], (HC5.out.alloc _).trans (Turns.end_ h9)⟩
theorem names_true (w : World) : Calls Try.prog 4 #[] w fun e w' => e = .returned (.bool true) ∧ Below w.heap.size w w' := by
  go_enter Try.func4, Try.ntmps4
  go_wp2_with (go_at_call 13; refine (shown_any _).mono ?_; rintro r w1 ⟨rfl, hc⟩; have HC := Lib.hid hc; clear hc)
  go_ret
  exact ⟨rfl, HC.out.below (fun _ h => h.elim) (Nat.le_refl _)⟩
end Go.Proofs.Ytkpgdonpmfebaaa.Bt

/- BitsBack, walked. -/
namespace Go.Proofs.Ytkpgdonpmfebaaa.Bt
open Go.RowKit Go.Hp
attribute [local go_sem] min2_lean min_two max2_lean max_two
set_option linter.unusedSimpArgs false
set_option linter.unusedVariables false
set_option maxRecDepth 100000
theorem ItemsAt.load {w wr : World} {A : Option Addr} {its : List ItA} (h : ItemsAt w A its) (hc : Chg (fun _ => False) w wr) (i : Nat) (hi : i < its.length) : its[i].fits ∧ ∃ b off, A = some ⟨b, off, none⟩ ∧
    wr.cell? ⟨b, off + i * 4, none⟩ = some (.int .i64 its[i].kind) ∧ wr.cell? ⟨b, off + i * 4 + 1, none⟩ = some (.int .i64 its[i].n) ∧ wr.cell? ⟨b, off + i * 4 + 2, none⟩ = some (.bool its[i].v) ∧ wr.cell? ⟨b, off + i * 4 + 3, none⟩ = some (.string its[i].s) := by
  obtain ⟨hf, b, off, hA, hb, hcell⟩ := h i hi
  have hcw : ∀ p u, w.cell? p = some u → wr.cell? p = some u := fun p u hp => (hc.cell (block_lt_of_cell hp) (fun h => h)).trans hp
  exact ⟨hf, b, off, hA, hcw _ _ (hcell 0 _ rfl), hcw _ _ (hcell 1 _ rfl), hcw _ _ (hcell 2 _ rfl), hcw _ _ (hcell 3 _ rfl)⟩
/-- A cell of a row. -/
theorem row_cell {w : World} {A : Option Addr} {n c : Nat} {E : TypeId} {xs : List Value} (h : w.ownsRow 0 E 1 (.slice A n c) n xs) (j : Nat) (u : Value) (hu : xs[j]? = some u) : ∃ g, A = some ⟨g, 0, none⟩ ∧ w.cell? ⟨g, j, none⟩ = some u := by
  have hj : j < xs.length := (List.getElem?_eq_some_iff.1 hu).1
  obtain ⟨g, cap, hv, _, _⟩ := row_form h (by have := h.1; omega)
  obtain ⟨rfl, _, rfl⟩ : A = some ⟨g, 0, none⟩ ∧ n = n ∧ c = cap := by simpa using hv
  refine ⟨g, rfl, ?_⟩
  have := World.ownsRow.cells (g := g) h rfl j u hu
  have ha : (⟨g, 0, none⟩ : Addr).add j = ⟨g, j, none⟩ := by unfold Addr.add; split <;> simp_all
  rwa [ha] at this
theorem endsC_get (its : List ItA) (L i : Nat) (h : i < L) : (endsC its L)[i]? = some (.int .i64 ((encs (its.take (i + 1))).length : Int)) := by
  unfold endsC
  simp [h]
theorem encs_split (its : List ItA) (i : Nat) (h : i < its.length) : ∃ rest, (encs its).drop (encs (its.take i)).length = enc its[i].right ++ rest := by
  refine ⟨encs (its.drop (i + 1)), ?_⟩
  have e : encs its = encs (its.take i) ++ (enc its[i].right ++ encs (its.drop (i + 1))) := by
    rw [← List.append_assoc, ← encs_take its i h]
    unfold encs
    rw [← List.flatten_append, ← List.map_append, List.take_append_drop]
  rw [e, List.drop_left]
theorem encs_part (its : List ItA) (i : Nat) : (encs (its.take i)).length ≤ (encs its).length := by
  have e : encs its = encs (its.take i) ++ encs (its.drop i) := by
    unfold encs
    rw [← List.flatten_append, ← List.map_append, List.take_append_drop]
  rw [e, List.length_append]
  omega
/-- 'back', of a reader given in its parts. -/
theorem back_at (g : Nat) (v : Value) (bs : List UInt8) (a a' : Nat) (x : ItA) (rest : List UInt8) (w : World) (hs : (RdS.mk g v bs a 0).own.holds w) (ha : a ≤ bs.length) (hl : bs.length ≤ 140737488355328) (hx : x.right.fits ∧ x.right.s = x.s ∧ 1 ≤ x.right.kind ∧ x.right.kind ≤ 5 ∧ (x.right.kind = 1 → 0 ≤ x.right.n))
    (hd : bs.drop a = enc x.right ++ rest) (ha' : a + (enc x.right).length = a') :
    Calls Try.prog 37 #[.pointer (some ⟨g, 0, none⟩), .agg x.right.cells] w fun q w' => q = .returned (.bool true) ∧ Turns w w' (RdS.mk g v bs a 0).own (RdS.mk g v bs a' 0).own := by
  subst ha'
  exact back_any (RdS.mk g v bs a 0) x.right rest w hs ⟨ha, hl⟩ rfl hx.1 hx.2.2.1 hx.2.2.2.1 hx.2.2.2.2 hd
theorem newR_at (A : Option Addr) (c n : Nat) (bs : List UInt8) (w : World) (hn : bs.length = n) (hx : Src w (.slice A n c) n 1 (bs.map bv)) (hl : n ≤ 140737488355328) :
    Calls Try.prog 25 #[.slice A n c] w fun q w' => ∃ g v, q = .returned (.pointer (some ⟨g, 0, none⟩)) ∧ Turns w w' Own.emp (RdS.mk g v bs 0 0).own := by
  subst hn
  refine (newR_any A c bs w hx hl).mono ?_
  rintro q w' ⟨g, rfl, ht⟩
  exact ⟨g, _, rfl, ht⟩
theorem laid_at (A : Option Addr) (its : List ItA) (cap L N : Nat) (w : World) (hi : ItemsAt w A its) (ht : tot its < 2147483648) (hL : its.length = L) (hN : (encs its).length = N) :
    Calls Try.prog 36 #[.slice A L cap] w fun r w' => ∃ Ao co Av cv, r = .returned (.tuple #[.slice Ao N co, .slice Av L cv, .bool true]) ∧
      Turns w w' Own.emp (Own.both (Own.row 5 1 (.slice Ao N co) N ((encs its).map bv)) (Own.row 3 1 (.slice Av L cv) L (endsC its L))) := by
  subst hL hN
  refine (laid_any A its cap w hi ht).mono ?_
  rintro r w' ⟨o, v, rfl, ht⟩
  obtain ⟨Ao, co, rfl⟩ := row_slice ht.now.1
  obtain ⟨Av, cv, rfl⟩ := row_slice ht.now.2.1
  exact ⟨Ao, co, Av, cv, rfl, ht⟩
def BackPost (w : World) (e : Ending) (w' : World) : Prop := e = .returned (.bool true) ∧ Below w.heap.size w w'
set_option maxHeartbeats 1000000 in
theorem bitsBack_any (A : Option Addr) (its : List ItA) (cap : Nat) (w : World) (hi : ItemsAt w A its) (hl : its.length * 40 ≤ 140737488351232) :
    Calls Try.prog 8 #[.slice A its.length cap] w (BackPost w) := by
  have HB := Lib.hid (beyond_any A its cap w hi hl)
  have HI := Lib.hid hi
  have hkeep : Hid (∀ W, Chg (fun _ => False) w W → ItemsAt W A its) := fun W hc i h => by
    obtain ⟨hf, b, off, hA, hb, hcell⟩ := hi i h
    exact ⟨hf, b, off, hA, Nat.lt_of_lt_of_le hb hc.size, fun j u hu => (hc.cell (block_lt_of_cell (hcell j u hu)) (fun h => h)).trans (hcell j u hu)⟩
  obtain ⟨L, hL⟩ : ∃ L, its.length = L := ⟨_, rfl⟩
  rw [hL] at HB hl ⊢
  have HL := Lib.hid hL
  clear hi hL
  obtain ⟨N, hN⟩ : ∃ N, (encs its).length = N := ⟨_, rfl⟩
  have HN := Lib.hid hN
  have hNb : Hid (tot its < 2147483648 → N ≤ 21474836480) := fun ht => by
    have h := encs_len its (fun i h => (HI.out i h).1) its.length (Nat.le_refl _)
    rw [List.take_of_length_le (Nat.le_refl _)] at h
    omega
  have HNb := Lib.hid (show tot its < 2147483648 → N ≤ 21474836480 from hNb.out)
  clear hN hNb
  go_enter Try.func8, Try.ntmps8
  go_wp2_with (first
    | (go_at_call 14; refine HB.out.mono ?_; rintro r w1 ⟨b, rfl, hb, rfl⟩; cases b; (have HBB := Lib.hid (hb rfl); clear hb))
    | (go_at_call 13; refine (shown_any _).mono ?_; rintro r w2 ⟨rfl, hc⟩; have HC := Lib.hid hc; clear hc)
    | (go_at_call 36; (with_reducible refine (laid_at A its cap L N _ (hkeep.out _ HC.out) HBB.out HL.out HN.out).mono ?_); rintro r w3 ⟨Ao, co, Av, cv, rfl, ht⟩; have HT := Lib.hid ht; clear ht)
    | (go_at_call 25; have hnb := HNb.out HBB.out; have hnc : N ≤ 140737488355328 := (by omega); have hq := newR_at Ao co N (encs its) _ HN.out (Src.of_own HT.out.now.1) hnc; (with_reducible refine hq.mono ?_); clear hq hnc; rintro r w4 ⟨g, v, rfl, ht⟩; have HR := Lib.hid ((HT.out.dropL).trans (Turns.add HT.out.dropL.now ht)); clear ht))
  rotate_left
  · go_ret
    exact ⟨rfl, Below.refl _ _⟩
  go_loopw [8] (fun x8 wr => ∃ (i a : Nat), x8 = .int .i64 i ∧ i ≤ L ∧ (encs (its.take i)).length = a ∧ Turns w2 wr Own.emp (Own.both (RdS.mk g v (encs its) a 0).own (Own.row 3 1 (.slice Av L cv) L (endsC its L)))) (fun x8 _ => L - (intOf x8).toNat)
  case atStart => exact ⟨0, 0, rfl, Nat.zero_le _, rfl, HR.out⟩
  case round =>
    obtain ⟨i, a, rfl, hil, ha, ht⟩ := hrel
    have HT2 := Lib.hid ht
    have HA := Lib.hid ha
    have HIL := Lib.hid hil
    clear ht ha
    by_cases h : i < L
    · have hd : decide (i < L) = true := by simpa using h
      have hil : i < its.length := by rw [HL.out]; exact h
      obtain ⟨hf, b, off, rfl, c0, c1, c2, c3⟩ := HI.out.load (HC.out.trans HT2.out.chg) i hil
      have HTK := Lib.hid (encs_take its i hil)
      have HRF := Lib.hid (right_fits hf)
      obtain ⟨rest, hr⟩ := encs_split its i hil
      rw [HA.out] at hr
      have HRS := Lib.hid hr
      have HP := Lib.hid (encs_part its i)
      have HR2 := Lib.hid (fun W => right_any its[i] W hf.2.1.1 hf.2.1.2)
      obtain ⟨a', ha'⟩ : ∃ a', a + (enc its[i].right).length = a' := ⟨_, rfl⟩
      have HA2 := Lib.hid ha'
      obtain ⟨ge, rfl, ce⟩ := row_cell HT2.out.now.2.1 i _ (endsC_get its L i h)
      rw [HTK.out, List.length_append, HA.out, ha'] at ce
      have HCE := Lib.hid ce
      clear hr ha' ce
      have hab : a' ≤ 21474836480 := by
        have h1 := encs_part its (i + 1)
        have h2 := HTK.out
        have h3 := congrArg List.length h2
        rw [List.length_append, HA.out, HA2.out] at h3
        rw [HN.out] at h1
        omega
      have HBK := Lib.hid (fun W hs => back_at g v (encs its) a a' its[i] rest W hs (by rw [← HA.out]; exact HP.out) (by rw [HN.out]; omega) HRF.out HRS.out HA2.out)
      have HAn : Hid ((encs (its.take (i + 1))).length = a') := by show _ = _; rw [HTK.out, List.length_append, HA.out, HA2.out]
      generalize its[i] = it at *
      have hil2 : i < 3518437208780 := by omega
      clear hil hf HRF HRS HP HA2 HTK HA
      obtain ⟨ik, in_, ib, is_⟩ := it
      simp only [] at c0 c1 c2 c3
      generalize hq : ItA.right ⟨ik, in_, ib, is_⟩ = q at *
      clear hq
      simp only [ItA.cells] at HR2
      simp only [ItA.cells] at HBK
      go_wp2_with (first
        | (go_at_call 33; (with_reducible refine (HR2.out _).mono ?_); rintro r w5 ⟨rfl, hc5⟩; have HT5 := Lib.hid (HT2.out.kept hc5); clear hc5)
        | (go_at_call 37; have hq9 := HBK.out _ HT5.out.now.1; (with_reducible refine hq9.mono ?_); clear hq9; rintro r w6 ⟨rfl, ht6⟩; have HT6 := Lib.hid (HT5.out.trans (Turns.left HT5.out.now ht6)); obtain ⟨ge2, hge, ce2⟩ := row_cell HT6.out.now.2.1 i _ (endsC_get its L i h); obtain rfl : ge = ge2 := (by simpa using hge); rw [HAn.out] at ce2)
        | (go_at_call 29; have hq9 := err_any (RdS.mk g v (encs its) a' 0) _ HT6.out.now.1; (with_reducible refine hq9.mono ?_); clear hq9; rintro r w7 ⟨rfl, nd, rfl⟩))
      go_roundw
      case rel => exact ⟨i + 1, a', by simp, by omega, HAn.out, HT6.out.drewN _⟩
      case measure => simp [intOf]; omega
    · have hd : decide (i < L) = false := by simpa using h
      obtain rfl : i = L := by omega
      have htk : its.take i = its := List.take_of_length_le (by rw [HL.out]; exact Nat.le_refl _)
      rw [htk, HN.out] at HA
      have HA2 := HA.out
      subst HA2
      have hcl : (RdS.mk g v (encs its) N 0).closed = RdS.mk g v (encs its) N 0 := by
        rw [RdS.closed, if_neg]; simp only []; rw [HN.out]; omega
      have HCL := Lib.hid hcl
      clear htk hcl
      go_wp2_with (go_at_call 35; have hq9 := close_any (RdS.mk g v (encs its) N 0) _ HT2.out.now.1; (with_reducible refine hq9.mono ?_); clear hq9; rintro r w8 ⟨rfl, ht8⟩; rw [HCL.out] at ht8 ⊢; have HT8 := Lib.hid (HC.out.trans (Turns.end_ (HT2.out.trans (Turns.left HT2.out.now ht8)))); clear ht8)
      go_ret
      exact ⟨rfl, HT8.out.below (fun _ h => h.elim) (Nat.le_refl _)⟩
theorem bitsBack_arg (v : Value) (w : World) (h : ArgOk Try.prog w 23 v) : Calls Try.prog 8 #[v] w fun e w' => e = .returned (.bool true) ∧ Below w.heap.size w w' := by
  obtain ⟨A, its, cap, rfl, hi, hl⟩ := items_open h
  exact bitsBack_any A its cap w hi hl
end Go.Proofs.Ytkpgdonpmfebaaa.Bt

/- The law's kept lists of bytes, as a law uses them. -/
namespace Go.Proofs.Ytkpgdonpmfebaaa.Bt.Kb
open Go.RowKit Go.Hp
set_option linter.unusedSimpArgs false
set_option linter.unusedVariables false
set_option maxRecDepth 100000
attribute [local go_sem] min2_lean min_two max2_lean max_two
/-- What a law knows of N kept lists. -/
def Kn (k : KS) (g N B : Nat) : Prop := k.g = g ∧ ∀ i, i < N → Gd (k.xs i) ∧ k.len i ≤ B
theorem keep_at (k : KS) (g N B M : Nat) (hM : N + 1 = M) (A : Option Addr) (n c : Nat) (xs : List Value) (w : World) (hk : Kn k g N B) (h : (Hp.Own.both (own k N 0) (Hp.Own.row 5 1 (.slice A n c) n xs)).holds w) (hg : Gd xs) (hn : n ≤ B) (hB : B ≤ 140737488351232) (hN : N ≤ 3518437208781) :
    Calls Try.prog 21 #[.pointer (some ⟨g, 0, none⟩), .slice A n c] w fun e w' => e = .returned (.tuple #[]) ∧ ∃ k', Kn k' g M B ∧ Turns w w' (Hp.Own.both (own k N 0) (Hp.Own.row 5 1 (.slice A n c) n xs)) (own k' M 0) := by
  subst hM
  obtain ⟨rfl, hx⟩ := hk
  refine (keep_any k N A n c xs w h hg (by omega) (by omega)).mono ?_
  rintro e w' ⟨rfl, ov, wv, y, ht⟩
  refine ⟨rfl, k.add N ov wv (.slice A n c) y n xs, ⟨rfl, fun i hi => ?_⟩, ht⟩
  show Gd (if i = N then xs else k.xs i) ∧ (if i = N then n else k.len i) ≤ B
  by_cases h : i = N
  · rw [if_pos h, if_pos h]; exact ⟨hg, hn⟩
  · rw [if_neg h, if_neg h]; exact hx i (by omega)
theorem spoil_at (k : KS) (g N B : Nat) (w : World) (hk : Kn k g N B) (h : (own k N 0).holds w) (hB : B ≤ 140737488351232) (hN : N ≤ 3518437208781) :
    Calls Try.prog 23 #[.pointer (some ⟨g, 0, none⟩)] w fun e w' => e = .returned (.bool true) ∧ Chg (own k N 0).foot w w' := by
  obtain ⟨rfl, hx⟩ := hk
  exact spoil_any k N w h (fun i hi => ⟨(hx i hi).1, Nat.le_trans (hx i hi).2 hB⟩) hN
theorem holds_at (k : KS) (g N B : Nat) (w : World) (hk : Kn k g N B) (h : (own k N 0).holds w) (hB : B ≤ 140737488351232) (hN : N ≤ 3518437208781) :
    Calls Try.prog 22 #[.pointer (some ⟨g, 0, none⟩)] w fun e w' => e = .returned (.bool true) ∧ Chg (fun _ => False) w w' := by
  obtain ⟨rfl, hx⟩ := hk
  exact holds_any k N 0 w h (Nat.zero_le _) (fun i hi => ⟨(hx i (by omega)).1, Nat.le_trans (hx i (by omega)).2 (by omega)⟩) (by omega)
end Go.Proofs.Ytkpgdonpmfebaaa.Bt.Kb

/- The law's writers, as things in memory. -/
namespace Go.Proofs.Ytkpgdonpmfebaaa.Bt
open Go.RowKit Go.Hp
attribute [local go_sem] min2_lean min_two max2_lean max_two
set_option linter.unusedSimpArgs false
set_option linter.unusedVariables false
set_option maxRecDepth 100000
inductive JP where
  | p (k : Nat) | s | a | b | c | wb | xb
deriving DecidableEq
/-- Two pairs of writers, of which K are made; the kept lists; what was handed out last; the two arrays. -/
def pf (s x : Nat → WrS) (K : Nat) (S A B C W X : Hp.Own) : JP → Hp.Own
  | .p k => if k < K then pw (s k) (x k) else Hp.Own.emp
  | .s => S | .a => A | .b => B | .c => C | .wb => W | .xb => X
def po (s x : Nat → WrS) (K : Nat) (S A B C W X : Hp.Own) : Hp.Own := Own.fam (pf s x K S A B C W X)
theorem po_emp {s x : Nat → WrS} {w w' : World} (hc : Chg (fun _ => False) w w') : Turns w w' Hp.Own.emp (po s x 0 Hp.Own.emp Hp.Own.emp Hp.Own.emp Hp.Own.emp Hp.Own.emp Hp.Own.emp) := by
  have e : po s x 0 Hp.Own.emp Hp.Own.emp Hp.Own.emp Hp.Own.emp Hp.Own.emp Hp.Own.emp = Own.fam (fun _ : JP => Hp.Own.emp) := Own.fam_as fun i => by cases i <;> simp [pf]
  rw [e]
  exact ⟨hc, ⟨fun i => trivial, fun i j b hi hj => hi.elim⟩, fun b hb => by obtain ⟨i, hi⟩ := hb; exact hi.elim⟩
variable {s x : Nat → WrS} {K : Nat} {w W W' : World} {O S A B C D X O' : Hp.Own}
theorem po_s (h : Turns w W O (po s x K S A B C D X)) (t : Turns W W' S O') : Turns w W' O (po s x K O' A B C D X) :=
  (h.trans (Turns.famE h.now .s rfl t)).to (Own.fam_as fun i => by cases i <;> rfl)
theorem po_a (h : Turns w W O (po s x K S A B C D X)) (t : Turns W W' A O') : Turns w W' O (po s x K S O' B C D X) :=
  (h.trans (Turns.famE h.now .a rfl t)).to (Own.fam_as fun i => by cases i <;> rfl)
theorem po_b (h : Turns w W O (po s x K S A B C D X)) (t : Turns W W' B O') : Turns w W' O (po s x K S A O' C D X) :=
  (h.trans (Turns.famE h.now .b rfl t)).to (Own.fam_as fun i => by cases i <;> rfl)
theorem po_c (h : Turns w W O (po s x K S A B C D X)) (t : Turns W W' C O') : Turns w W' O (po s x K S A B O' D X) :=
  (h.trans (Turns.famE h.now .c rfl t)).to (Own.fam_as fun i => by cases i <;> rfl)
theorem po_wb (h : Turns w W O (po s x K S A B C D X)) (t : Turns W W' D O') : Turns w W' O (po s x K S A B C O' X) :=
  (h.trans (Turns.famE h.now .wb rfl t)).to (Own.fam_as fun i => by cases i <;> rfl)
theorem po_xb (h : Turns w W O (po s x K S A B C D X)) (t : Turns W W' X O') : Turns w W' O (po s x K S A B C D O') :=
  (h.trans (Turns.famE h.now .xb rfl t)).to (Own.fam_as fun i => by cases i <;> rfl)
theorem po_sa (h : Turns w W O (po s x K S A B C D X)) (t : Turns W W' (Hp.Own.both S A) O') : Turns w W' O (po s x K O' Hp.Own.emp B C D X) :=
  (h.trans (Turns.fam2 h.now (i := JP.s) (j := JP.a) (by simp) rfl rfl t)).to (Own.fam_as fun i => by cases i <;> rfl)
theorem po_sb (h : Turns w W O (po s x K S A B C D X)) (t : Turns W W' (Hp.Own.both S B) O') : Turns w W' O (po s x K O' A Hp.Own.emp C D X) :=
  (h.trans (Turns.fam2 h.now (i := JP.s) (j := JP.b) (by simp) rfl rfl t)).to (Own.fam_as fun i => by cases i <;> rfl)
theorem po_bothA (h : Turns w W O (po s x K S A B C D X)) : (Hp.Own.both S A).holds W := Own.fam_both (i := JP.s) (j := JP.a) h.now (by simp) rfl rfl
theorem po_bothB (h : Turns w W O (po s x K S A B C D X)) : (Hp.Own.both S B).holds W := Own.fam_both (i := JP.s) (j := JP.b) h.now (by simp) rfl rfl
def put (f : Nat → WrS) (k : Nat) (y : WrS) : Nat → WrS := fun j => if j = k then y else f j
/-- A pair writes. -/
theorem po_p (h : Turns w W O (po s x K S A B C D X)) {k : Nat} (hk : k < K) {y z : WrS} (t : Turns W W' (pw (s k) (x k)) (pw y z)) : Turns w W' O (po (put s k y) (put x k z) K S A B C D X) :=
  (h.trans (Turns.famE h.now (.p k) (by simp [pf, hk]) t)).to (Own.fam_as fun i => by
    cases i with
    | p j => by_cases hj : j = k <;> simp [upd, pf, put, hj, hk]
    | _ => rfl)
/-- A pair is made. -/
theorem po_new (h : Turns w W O (po s x K S A B C D X)) {y z : WrS} (t : Turns W W' Hp.Own.emp (pw y z)) : Turns w W' O (po (put s K y) (put x K z) (K + 1) S A B C D X) :=
  (h.trans (Turns.famE h.now (.p K) (by simp [pf]) t)).to (Own.fam_as fun i => by
    cases i with
    | p j =>
      by_cases hj : j = K
      · simp [upd, pf, put, hj]
      · simp only [upd, pf, put, JP.p.injEq, if_neg hj]
        by_cases h2 : j < K
        · rw [if_pos h2, if_pos (by omega)]
        · rw [if_neg h2, if_neg (by omega)]
    | _ => rfl)
theorem po_P (h : Turns w W O (po s x K S A B C D X)) {k : Nat} (hk : k < K) : (pw (s k) (x k)).holds W := by
  have := h.now.1 (.p k)
  simpa [pf, hk] using this
theorem po_S (h : Turns w W O (po s x K S A B C D X)) : S.holds W := h.now.1 .s
theorem po_A (h : Turns w W O (po s x K S A B C D X)) : A.holds W := h.now.1 .a
theorem po_B (h : Turns w W O (po s x K S A B C D X)) : B.holds W := h.now.1 .b
theorem po_C (h : Turns w W O (po s x K S A B C D X)) : C.holds W := h.now.1 .c
theorem po_D (h : Turns w W O (po s x K S A B C D X)) : D.holds W := h.now.1 .wb
theorem po_X (h : Turns w W O (po s x K S A B C D X)) : X.holds W := h.now.1 .xb
/-- What Done tells. -/
def dnB (bs : List UInt8) (bad : Bool) : List UInt8 := if bad then [] else bs
def dnE (bad : Bool) : Int := if bad then 1 else 0
def rb (A : Option Addr) (n c : Nat) (bs : List UInt8) : Hp.Own := Hp.Own.row 5 1 (.slice A n c) n (bs.map bv)
theorem done_any (s : WrS) (w : World) (m : Nat) (hm : (dnB s.bs s.bad).length = m) (hs : s.own.holds w) (hl : s.bs.length ≤ 140737488355328) :
    Calls Try.prog 18 #[.pointer (some ⟨s.g, 0, none⟩)] w fun r w' => ∃ A c, r = .returned (.tuple #[.slice A m c, .int .i64 (dnE s.bad)]) ∧ Turns w w' Hp.Own.emp (rb A m c (dnB s.bs s.bad)) := by
  subst hm
  obtain ⟨g, v, bs, bad⟩ := s
  cases bad
  · refine (done_ok ⟨g, v, bs, false⟩ w hs rfl hl).mono ?_
    rintro r w' ⟨o, rfl, ht, _⟩
    obtain ⟨A, c, rfl⟩ := row_slice ht.now
    exact ⟨A, c, rfl, ht⟩
  · refine (done_bad ⟨g, v, bs, true⟩ w hs rfl).mono ?_
    rintro r w' ⟨rfl, rfl⟩
    exact ⟨none, 0, rfl, ⟨Chg.refl _ _, World.ownsRow_nil _ _ _ _, fun b hb => by cases hb⟩⟩
theorem xdone_any (s : WrS) (w : World) (m : Nat) (hm : (dnB s.bs s.bad).length = m) (hs : s.xown.holds w) (hl : s.bs.length ≤ 140737488355328) :
    Calls Try.prog 19 #[.pointer (some ⟨s.g, 0, none⟩)] w fun r w' => ∃ A c, r = .returned (.tuple #[.slice A m c, .int .i64 (dnE s.bad)]) ∧ Turns w w' Hp.Own.emp (rb A m c (dnB s.bs s.bad)) := by
  subst hm
  obtain ⟨g, v, bs, bad⟩ := s
  cases bad
  · refine (xdone_ok ⟨g, v, bs, false⟩ w hs rfl hl).mono ?_
    rintro r w' ⟨o, rfl, ht⟩
    obtain ⟨A, c, rfl⟩ := row_slice ht.now
    exact ⟨A, c, rfl, ht⟩
  · refine (xdone_bad ⟨g, v, bs, true⟩ w hs rfl).mono ?_
    rintro r w' ⟨rfl, rfl⟩
    exact ⟨none, 0, rfl, ⟨Chg.refl _ _, World.ownsRow_nil _ _ _ _, fun b hb => by cases hb⟩⟩
theorem same_rb (A B : Option Addr) (n c d : Nat) (bs : List UInt8) (w : World) (hs : (rb A n c bs).holds w) (ht : (rb B n d bs).holds w) (hn : n ≤ 140737488355328) :
    Calls Try.prog 20 #[.slice A n c, .slice B n d] w fun e w' => e = .returned (.bool true) ∧ Chg (fun _ => False) w w' := by
  refine (Kb.same_src A B n c d (bs.map bv) w (Src.of_own (show w.ownsRow 0 5 1 (.slice A n c) n (bs.map bv) from hs)) (Src.of_own (show w.ownsRow 0 5 1 (.slice B n d) n (bs.map bv) from ht)) ⟨bs, rfl⟩ hn).mono ?_
  rintro e w' ⟨rfl, q, rfl⟩
  exact ⟨rfl, (Chg.refl _ _).drewN q⟩
theorem gd_bv (bs : List UInt8) : Kb.Gd (bs.map bv) := ⟨bs, rfl⟩
theorem dnB_le (bs : List UInt8) (bad : Bool) : (dnB bs bad).length ≤ bs.length := by unfold dnB; cases bad <;> simp
theorem wrB_len (bs : List UInt8) (bad : Bool) {x : ItA} (h : x.fits) : (wrB bs bad x).1.length ≤ bs.length + x.s.size + 10 := by
  unfold wrB
  split
  · simp only []; omega
  · split
    · simp only []; omega
    · have := (enc_len h).2
      simp only [List.length_append]
      omega
/-- The writers' shape: the document's beside the program's; their places; their bulk. -/
structure Pairs (s x : Nat → WrS) (cs ds : Array Value) (K T : Nat) : Prop where
  bs : ∀ k, k < K → (x k).bs = (s k).bs
  bad : ∀ k, k < K → (x k).bad = (s k).bad
  at_ : ∀ k, k < K → cs[k]? = some (.pointer (some ⟨(s k).g, 0, none⟩))
  xat : ∀ k, k < K → ds[k]? = some (.pointer (some ⟨(x k).g, 0, none⟩))
  len : ∀ k, k < K → (s k).bs.length ≤ T
theorem Pairs.put {s x : Nat → WrS} {cs ds : Array Value} {K T : Nat} (h : Pairs s x cs ds K T) {k : Nat} (hk : k < K) {it : ItA} (hf : it.fits) (v v' : Value) (T' : Nat) (hT : T + it.s.size + 10 ≤ T') :
    Pairs (put s k (WrS.mk (s k).g v (wrB (s k).bs (s k).bad it).1 (wrB (s k).bs (s k).bad it).2)) (put x k (WrS.mk (x k).g v' (wrB (s k).bs (s k).bad it).1 (wrB (s k).bs (s k).bad it).2)) cs ds K T' := by
  have hl := h.len
  refine ⟨fun j hj => ?_, fun j hj => ?_, fun j hj => ?_, fun j hj => ?_, fun j hj => ?_⟩ <;> unfold Bt.put <;> by_cases e : j = k
  · rw [if_pos e, if_pos e]
  · rw [if_neg e, if_neg e]; exact h.bs j hj
  · rw [if_pos e, if_pos e]
  · rw [if_neg e, if_neg e]; exact h.bad j hj
  · rw [if_pos e]; subst e; exact h.at_ j hj
  · rw [if_neg e]; exact h.at_ j hj
  · rw [if_pos e]; subst e; exact h.xat j hj
  · rw [if_neg e]; exact h.xat j hj
  · rw [if_pos e]
    have := wrB_len (s k).bs (s k).bad hf
    have := hl k hk
    simp only []
    omega
  · rw [if_neg e]
    have := hl j hj
    omega
theorem Pairs.wide {s x : Nat → WrS} {cs ds : Array Value} {K T T' : Nat} (h : Pairs s x cs ds K T) (hT : T ≤ T') : Pairs s x cs ds K T' := ⟨h.bs, h.bad, h.at_, h.xat, fun k hk => Nat.le_trans (h.len k hk) hT⟩
end Go.Proofs.Ytkpgdonpmfebaaa.Bt

/- Package roll: Bytes. -/
namespace Go.Proofs.Ytkpgdonpmfebaaa.Rl
open Go.Proofs.Ytkpgdonpmfebaaa.Bt
open Go.RowKit Go.Hp
attribute [local go_sem] min2_lean min_two max2_lean max_two
set_option linter.unusedSimpArgs false
set_option linter.unusedVariables false
set_option maxRecDepth 100000
def rowB (r : RwA) : List UInt8 := eN r.num ++ eN r.at_ ++ eR r.code r.n r.its
def RlS.bytes (s : RlS) (k : Int) : List UInt8 := if s.has k then rowB (s.last k) else []
theorem RlS.last_may {s : RlS} (h : s.ok) {k : Int} (hk : s.has k = true) : may (s.last k) = true := by
  unfold RlS.last
  rw [if_pos hk]
  unfold RlS.has at hk
  have hk := of_decide_eq_true hk
  rcases h k.toNat (by omega) with h1 | h1
  · exact h1.2
  · rw [h1.1] at hk; exact absurd hk.2.2 (by simp)
theorem may_zero {r : RwA} (h : may r = true) : 1 ≤ r.num ∧ r.num ≤ 1099511627776 ∧ 1 ≤ r.at_ ∧ r.at_ ≤ 1099511627776 ∧ chk r.code r.n r.its = 0 := by
  unfold may at h
  simp only [Bool.and_eq_true, decide_eq_true_eq] at h
  exact ⟨h.1.1.1.1, h.1.1.1.2, h.1.1.2, h.1.2, h.2⟩
theorem new_rw {A : Option Addr} {m c : Nat} {xs : List ByteArray} {w w1 w2 : World} {g : Nat} (h1 : Turns w w1 Hp.Own.emp (its A m c xs)) (h2 : Turns w1 w2 Hp.Own.emp (WrS.mk g (.slice none 0 0) [] false).own) : Turns w w2 Hp.Own.emp (rw_ A m c xs g (.slice none 0 0) []) :=
  Turns.swap (h1.trans (Turns.add h1.now h2))
theorem new_at (w : World) : Calls Try.prog 15 #[] w fun r w' => ∃ g, r = .returned (.pointer (some ⟨g, 0, none⟩)) ∧ w.heap.size ≤ g ∧ Turns w w' Hp.Own.emp (WrS.mk g (.slice none 0 0) [] false).own := (newW_any w).mono fun _ _ h => ⟨_, h.1, Nat.le_refl _, h.2⟩
theorem rw_far {A : Option Addr} {m c : Nat} {xs : List ByteArray} {w w1 : World} {g : Nat} (h1 : Turns w w1 Hp.Own.emp (its A m c xs)) (hg : w1.heap.size < g) : ¬ (rw_ A m c xs g (.slice none 0 0) []).foot w1.heap.size := by
  rintro (h | h | h)
  · exact Nat.lt_irrefl _ ((its A m c xs).lt h1.now _ h)
  · have h : w1.heap.size = g := h
    omega
  · cases h
theorem eR_len {code n : Int} {xs : List ByteArray} (h : chk code n xs = 0) : (eR code n xs).length ≤ 30 + 74 * xs.length := by
  obtain ⟨k0, k1, k2, k3, k4, k5, k6⟩ := chk_zero h
  have l0 : (eN code).length ≤ 10 := eN_len k0 (by omega)
  have l1 : (eN n).length ≤ 10 := eN_len k3 (by omega)
  have l2 : (eN (xs.length : Int)).length ≤ 10 := eN_len (by omega) (by omega)
  have hf : ((xs.map eT).flatten).length ≤ 74 * xs.length := by
    clear h k2 k5 l2
    induction xs with
    | nil => simp
    | cons x r ih =>
      have h1 := ih (fun s hs => k6 s (List.mem_cons_of_mem _ hs))
      have h2 := eT_len (k6 x (List.mem_cons_self ..))
      simp only [List.map_cons, List.flatten_cons, List.length_append, List.length_cons]
      omega
  unfold eR
  split
  · simp only [List.length_append]; omega
  · simp only [List.length_append, List.length_nil]; omega
theorem bytes_any (s : RlS) (k : Int) (w : World) (M : Nat) (hM : (s.bytes k).length = M) (hs : s.own.holds w) (hok : s.ok) :
    Calls Try.prog 43 #[.pointer (some ⟨s.g, 0, none⟩), .int .i64 k] w fun e w' => ∃ A c, e = .returned (.slice A M c) ∧ Turns w w' Hp.Own.emp (rb A M c (s.bytes k)) := by
  have HLA := last_any s k w hs hok
  by_cases hh : s.has k = true
  · have hmy := may_zero (RlS.last_may hok hh)
    have hB : s.bytes k = rowB (s.last k) := by unfold RlS.bytes; rw [if_pos hh]
    rw [hB] at hM ⊢
    rw [hh] at HLA
    have HLA := Lib.hid HLA
    generalize s.last k = r at *
    obtain ⟨num, at_, code, n, xs⟩ := r
    simp only [] at hmy HLA
    obtain ⟨m1, m2, m3, m4, hck⟩ := hmy
    have hck0 := chk_zero hck
    obtain ⟨m, hm⟩ : ∃ m, xs.length = m := ⟨_, rfl⟩
    have hm8 : m ≤ 8 := by omega
    rw [hm] at HLA
    simp only [RwA.cells] at HLA
    unfold rowB at hM ⊢
    simp only [] at hM ⊢
    have l0 : (eN num).length ≤ 10 := eN_len (by omega) (by omega)
    have l1 : (eN at_).length ≤ 10 := eN_len (by omega) (by omega)
    have l2 : (eR code n xs).length ≤ 30 + 74 * xs.length := eR_len hck
    have HNW := Lib.hid (fun W => new_at W)
    have HNA := Lib.hid (fun A c g v W (h : (rw_ A m c xs g v []).holds W) => wr_num g v [] num W h.2.1 (by omega) (by omega) (by simp))
    have HNB := Lib.hid (fun A c g v W (h : (rw_ A m c xs g v ([] ++ eN num)).holds W) => wr_num g v ([] ++ eN num) at_ W h.2.1 (by omega) (by omega) (by rw [List.nil_append]; omega))
    have HPT := Lib.hid (fun A c g v W (h : (rw_ A m c xs g v ([] ++ eN num ++ eN at_)).holds W) => put_any g v ([] ++ eN num ++ eN at_) code n A m c xs W h hm hck (by rw [List.nil_append, List.length_append]; omega))
    have HDN := Lib.hid (fun A c g v W (h : (rw_ A m c xs g v ([] ++ eN num ++ eN at_ ++ eR code n xs)).holds W) => done_any (WrS.mk g v ([] ++ eN num ++ eN at_ ++ eR code n xs) false) W M (by unfold dnB; simp only [List.nil_append, if_false, Bool.false_eq_true]; exact hM) h.2.1 (by simp only [List.nil_append, List.length_append]; omega))
    have HM := Lib.hid hm
    clear hs hok hh hB m1 m2 m3 m4 hck hck0 hm l0 l1 l2 hM
    go_enter Try.func43, Try.ntmps43
    go_wp2_with (first
      | (go_at_call 41; (with_reducible refine HLA.out.mono ?_); rintro e w1 ⟨A, c, rfl, ht1⟩; have HT1 := Lib.hid (show Turns w w1 Hp.Own.emp (its A m c xs) from by unfold irow at ht1; unfold its; rw [HM.out] at ht1; exact ht1); have HB1 := Lib.hid (Blk.new w1 #[.int .i64 num, .int .i64 at_, .int .i64 code, .int .i64 n, .slice A m c] 75); clear ht1)
      | (go_at_call 15; (with_reducible refine (HNW.out _).mono ?_); rintro e w2 ⟨g, rfl, hg, ht2⟩; have HT2 := Lib.hid (new_rw (HT1.out.alloc _) ht2); have hg : w1.heap.size < g := (by simp at hg; omega); have HF := Lib.hid (rw_far HT1.out hg); have HB2 := Lib.hid (HB1.out.chg ht2.chg (fun h => h)); have HU2 := Lib.hid (Turns.refl HT2.out.now); obtain ⟨⟨q0, q1, q2, q3, q4⟩, -⟩ := Blk.five (HB2.out.chg HU2.out.chg HF.out); clear ht2 hg)
      | (go_at_call 59; (with_reducible refine (HNA.out _ _ _ _ _ HU2.out.now).mono ?_); rintro e w3 ⟨rfl, v3, ht3⟩; have HU3 := Lib.hid (rw_w HU2.out ht3); clear ht3 q0 q1 q2 q3 q4; obtain ⟨⟨q0, q1, q2, q3, q4⟩, -⟩ := Blk.five (HB2.out.chg HU3.out.chg HF.out))
      | (go_at_call 59; (with_reducible refine (HNB.out _ _ _ _ _ HU3.out.now).mono ?_); rintro e w4 ⟨rfl, v4, ht4⟩; have HU4 := Lib.hid (rw_w HU3.out ht4); clear ht4 q0 q1 q2 q3 q4; obtain ⟨⟨q0, q1, q2, q3, q4⟩, -⟩ := Blk.five (HB2.out.chg HU4.out.chg HF.out))
      | (go_at_call 87; (with_reducible refine (HPT.out _ _ _ _ _ HU4.out.now).mono ?_); rintro e w5 ⟨rfl, v5, ht5⟩; have HU5 := Lib.hid (HU4.out.trans ht5); clear ht5 q0 q1 q2 q3 q4)
      | (go_at_call 18; (with_reducible refine (HDN.out _ _ _ _ _ HU5.out.now).mono ?_); rintro e w6 ⟨A6, c6, rfl, ht6⟩; have HT6 := Lib.hid ht6; clear ht6))
    go_ret
    refine ⟨A6, c6, rfl, ?_⟩
    have h6 := HT6.out
    have h2 : Turns w w5 Hp.Own.emp Hp.Own.emp := Turns.emptied (HT2.out.trans HU5.out)
    have h7 := h2.trans h6
    unfold dnB at h7
    simpa using h7
  · have hh : s.has k = false := by simpa using hh
    have hB : s.bytes k = [] := by unfold RlS.bytes; rw [hh]; rfl
    have hL : s.last k = RwA.zero := by unfold RlS.last; rw [hh]; rfl
    rw [hB] at hM ⊢
    rw [hh, hL] at HLA
    have HLA := Lib.hid HLA
    obtain rfl : M = 0 := by simpa using hM.symm
    clear hs hok hh hB hL hM
    simp only [RwA.cells, RwA.zero] at HLA
    go_enter Try.func43, Try.ntmps43
    go_wp2_with (go_at_call 41; (with_reducible refine HLA.out.mono ?_); rintro e w1 ⟨A, c, rfl, ht1⟩; have HT1 := Lib.hid ht1; clear ht1)
    go_ret
    exact ⟨none, 0, rfl, ⟨HT1.out.chg.alloc _, World.ownsRow_nil _ _ _ _, fun b hb => by cases hb⟩⟩
end Go.Proofs.Ytkpgdonpmfebaaa.Rl

/- Nested things: a step at a place. Plain. -/
namespace Go.Hp
open Go.RowKit
variable {w W W' : World} {O A A' B B' C C' X X' : Own}
theorem Turns.at1 (h : Turns w W O (Own.both A X)) (t : Turns W W' X X') : Turns w W' O (Own.both A X') := h.trans (Turns.rightT h.now t)
theorem Turns.at0 (h : Turns w W O (Own.both A X)) (t : Turns W W' A A') : Turns w W' O (Own.both A' X) := h.trans (Turns.left h.now t)
theorem Turns.at2 (h : Turns w W O (Own.both A (Own.both B X))) (t : Turns W W' X X') : Turns w W' O (Own.both A (Own.both B X')) := h.at1 (Turns.rightT h.now.2.1 t)
theorem Turns.at10 (h : Turns w W O (Own.both A (Own.both B X))) (t : Turns W W' B B') : Turns w W' O (Own.both A (Own.both B' X)) := h.at1 (Turns.left h.now.2.1 t)
theorem Turns.at3 (h : Turns w W O (Own.both A (Own.both B (Own.both C X)))) (t : Turns W W' X X') : Turns w W' O (Own.both A (Own.both B (Own.both C X'))) := h.at2 (Turns.rightT h.now.2.1.2.1 t)
theorem Turns.at20 (h : Turns w W O (Own.both A (Own.both B (Own.both C X)))) (t : Turns W W' C C') : Turns w W' O (Own.both A (Own.both B (Own.both C' X))) := h.at2 (Turns.left h.now.2.1.2.1 t)
theorem Turns.pushT (h : Turns w W O X) (t : Turns W W' Own.emp A) : Turns w W' O (Own.both A X) := h.trans (Turns.add h.now t)
theorem Turns.push (h : Turns w W O X) (cs : Array Value) (T : TypeId) : Turns w (W.alloc (.cells cs T)) O (Own.both (Own.blk W.heap.size cs T) X) := h.pushT (Turns.blk_new W cs T)
theorem Turns.pushNil (h : Turns w W O X) (E : TypeId) (size : Nat) : Turns w W O (Own.both (Own.row E size (.slice none 0 0) 0 []) X) :=
  h.pushT ⟨Chg.refl _ _, World.ownsRow_nil _ _ _ _, fun b hb => by cases hb⟩
theorem Turns.n0 (h : Turns w W O (Own.both A X)) : A.holds W := h.now.1
theorem Turns.n1 (h : Turns w W O (Own.both A X)) : X.holds W := h.now.2.1
theorem Turns.n10 (h : Turns w W O (Own.both A (Own.both B X))) : B.holds W := h.now.2.1.1
theorem Turns.n11 (h : Turns w W O (Own.both A (Own.both B X))) : X.holds W := h.now.2.1.2.1
theorem Turns.n110 (h : Turns w W O (Own.both A (Own.both B (Own.both C X)))) : C.holds W := h.now.2.1.2.1.1
theorem Turns.n111 (h : Turns w W O (Own.both A (Own.both B (Own.both C X)))) : X.holds W := h.now.2.1.2.1.2.1
theorem Turns.b0 {g : Nat} {cs : Array Value} {T : TypeId} (h : Turns w W O (Own.both (Own.blk g cs T) X)) : Blk W g cs T := h.now.1
theorem Turns.b10 {g : Nat} {cs : Array Value} {T : TypeId} (h : Turns w W O (Own.both A (Own.both (Own.blk g cs T) X))) : Blk W g cs T := h.now.2.1.1
theorem Turns.b110 {g : Nat} {cs : Array Value} {T : TypeId} (h : Turns w W O (Own.both A (Own.both B (Own.both (Own.blk g cs T) X)))) : Blk W g cs T := h.now.2.1.2.1.1
theorem Turns.put0 {g : Nat} {cs : Array Value} {T : TypeId} (h : Turns w W O (Own.both (Own.blk g cs T) X)) (o : Nat) (v : Value) : Turns w (W.setCell ⟨g, o, none⟩ v) O (Own.both (Own.blk g (cs.setIfInBounds o v) T) X) := h.at0 (Turns.blk_set h.now.1 o v)
theorem Turns.put10 {g : Nat} {cs : Array Value} {T : TypeId} (h : Turns w W O (Own.both A (Own.both (Own.blk g cs T) X))) (o : Nat) (v : Value) : Turns w (W.setCell ⟨g, o, none⟩ v) O (Own.both A (Own.both (Own.blk g (cs.setIfInBounds o v) T) X)) := h.at10 (Turns.blk_set h.now.2.1.1 o v)
theorem Turns.drop1 (h : Turns w W O (Own.both A (Own.both B X))) : Turns w W O (Own.both A X) :=
  ⟨h.chg, ⟨h.now.1, h.now.2.1.2.1, fun b h1 h2 => h.now.2.2 b h1 (Or.inr h2)⟩, fun b hb => h.near b (hb.elim Or.inl (fun h2 => Or.inr (Or.inr h2)))⟩
/-- The second of two in front is put first. -/
theorem Turns.flip (h : Turns w W O (Own.both A (Own.both B X))) : Turns w W O (Own.both B (Own.both A X)) :=
  ⟨h.chg, ⟨h.now.2.1.1, ⟨h.now.1, h.now.2.1.2.1, fun b h1 h2 => h.now.2.2 b h1 (Or.inr h2)⟩, fun b h1 h2 => h2.elim (fun h3 => h.now.2.2 b h3 (Or.inl h1)) (fun h3 => h.now.2.1.2.2 b h1 h3)⟩,
    fun b hb => h.near b (hb.elim (fun h1 => Or.inr (Or.inl h1)) (fun h1 => h1.elim Or.inl (fun h2 => Or.inr (Or.inr h2))))⟩
theorem Blk.three {w : World} {b : Nat} {a0 a1 a2 : Value} {T : TypeId} (h : Blk w b #[a0, a1, a2] T) :
    w.cell? ⟨b, 0, none⟩ = some a0 ∧ w.cell? ⟨b, 1, none⟩ = some a1 ∧ w.cell? ⟨b, 2, none⟩ = some a2 ∧
    w.frozen? ⟨b, 0, none⟩ = false ∧ w.frozen? ⟨b, 1, none⟩ = false ∧ w.frozen? ⟨b, 2, none⟩ = false ∧ b < w.heap.size :=
  ⟨h.cell 0, h.cell 1, h.cell 2, h.frozen 0, h.frozen 1, h.frozen 2, h.lt⟩
end Go.Hp

/- The reference's reader: a number in groups. -/
namespace Go.Proofs.Ytkpgdonpmfebaaa.Bt
open Go.RowKit Go.Hp
attribute [local go_sem] min2_lean min_two max2_lean max_two
set_option linter.unusedSimpArgs false
set_option linter.unusedVariables false
set_option maxRecDepth 100000

/-- The reference's reader in memory. -/
def RdS.xown (s : RdS) : Hp.Own := Hp.Own.both (Hp.Own.blk s.g #[s.v, .int .i64 s.at_, .int .i64 s.e] 113) (Hp.Own.row 5 1 s.v s.bs.length (s.bs.map bv))
theorem xr_cells {s : RdS} {w : World} (h : s.xown.holds w) : w.cell? ⟨s.g, 0, none⟩ = some s.v ∧ w.cell? ⟨s.g, 1, none⟩ = some (.int .i64 s.at_) ∧ w.cell? ⟨s.g, 2, none⟩ = some (.int .i64 s.e) ∧
    w.frozen? ⟨s.g, 1, none⟩ = false ∧ w.frozen? ⟨s.g, 2, none⟩ = false :=
  ⟨Blk.cell h.1 0, Blk.cell h.1 1, Blk.cell h.1 2, Blk.frozen h.1 1, Blk.frozen h.1 2⟩
theorem xr_form {s : RdS} {w : World} (h : s.xown.holds w) : ∃ A c, s.v = .slice A s.bs.length c := by
  rcases h.2.1.2 with ⟨hv, h0⟩ | ⟨g, cap, cur, hv, _⟩
  · exact ⟨none, 0, by rw [hv, h0]⟩
  · exact ⟨_, _, hv⟩
theorem xr_byte {s : RdS} {w : World} (h : s.xown.holds w) (k : Nat) (hk : k < s.bs.length) : ∃ gv c, s.v = .slice (some ⟨gv, 0, none⟩) s.bs.length c ∧ w.cell? ⟨gv, k, none⟩ = some (bv s.bs[k]) ∧ s.bs.length ≤ c := by
  obtain ⟨gv, c, hv, _, hc⟩ := row_form h.2.1 (by omega)
  refine ⟨gv, c, hv, ?_, hc⟩
  have := World.ownsRow.cells (g := gv) h.2.1 (by rw [hv]; rfl) k (bv s.bs[k]) (by simp [hk])
  have ha : (⟨gv, 0, none⟩ : Addr).add k = ⟨gv, k, none⟩ := by unfold Addr.add; split <;> simp_all
  rwa [ha] at this
theorem xr_setAt {s : RdS} {w : World} (h : s.xown.holds w) (k : Nat) (u : Int) (hu : u = k) : Turns w (w.setCell ⟨s.g, 1, none⟩ (.int .i64 u)) s.xown ({ s with at_ := k } : RdS).xown := by
  subst hu
  have := Turns.bothl h (SetBlk.of_set h.1 1 (.int .i64 k))
  exact this
theorem xr_setE {s : RdS} {w : World} (h : s.xown.holds w) (u : Int) : Turns w (w.setCell ⟨s.g, 2, none⟩ (.int .i64 u)) s.xown ({ s with e := u } : RdS).xown := by
  have := Turns.bothl h (SetBlk.of_set h.1 2 (.int .i64 u))
  exact this
/-- What 'look' tells. -/
def lk (last most : Nat) (bs : List UInt8) (a : Nat) : Nat × Nat × Int :=
  let q := gr (last + 1) most bs (last + 1) 0 0 a
  if q.2.2 = 0 then (q.1, q.2.1 - a, 0) else (0, 0, q.2.2)
theorem drewN_two (w : World) (a b : Nat) : (w.drewN a).drewN b = w.drewN (a + b) := by simp [World.drewN, Nat.add_assoc]
theorem or_look (n z i : Nat) (hz : z < 256) (hn : n < 128 ^ i) (hi : i ≤ 9) (h9 : i = 9 → z % 128 ≤ 1) :
    bits BinOp.or IntKind.u64 (n : Int) (IntKind.u64.wrap ((z : Int) % 128 * 2 ^ (7 * i))) = ((n + (z % 128) * 128 ^ i : Nat) : Int) := by
  have h := or_groups n z i hz hn hi h9
  rw [and127 z hz, show IntKind.u64.wrap (((z % 128 : Nat)) : Int) = (z : Int) % 128 by rw [IntKind.wrap_u64]; omega] at h
  exact h
set_option maxHeartbeats 1000000 in
theorem look_any (s : RdS) (last most : Nat) (w : World) (hs : s.xown.holds w) (ha : s.at_ ≤ s.bs.length) (hl : s.bs.length ≤ 140737488355328) (hm : last ≤ 9) (ht : most ≤ 127) (ht2 : last = 9 → most ≤ 1) :
    Calls Try.prog 82 #[.pointer (some ⟨s.g, 0, none⟩), .int .i64 last, .int .u8 most] w fun r w' =>
      r = .returned (.tuple #[.int .u64 (lk last most s.bs s.at_).1, .int .i64 (lk last most s.bs s.at_).2.1, .int .i64 (lk last most s.bs s.at_).2.2]) ∧ ∃ m, w.drewN m = w' := by
  obtain ⟨g, v, bs, at_, e⟩ := s
  obtain ⟨d0, d1, d2, _, _⟩ := xr_cells hs
  obtain ⟨A, c, hv⟩ := xr_form hs
  simp only [] at d0 d1 d2 hv ha hl
  subst hv
  have HS := Lib.hid hs
  clear hs
  obtain ⟨L, hL⟩ : ∃ L, L = lk last most bs at_ := ⟨_, rfl⟩
  have HL := Lib.hid hL
  simp only []
  rw [← hL]
  clear hL
  obtain ⟨G, hG⟩ : ∃ G, G = gr (last + 1) most bs (last + 1) 0 0 at_ := ⟨_, rfl⟩
  have HG := Lib.hid hG
  have HLG : Hid (L = if G.2.2 = 0 then (G.1, G.2.1 - at_, 0) else (0, 0, G.2.2)) := by
    have := HL.out
    unfold lk at this
    rw [← hG] at this
    exact this
  clear hG HL
  obtain ⟨m, hm'⟩ : ∃ m, bs.length = m := ⟨_, rfl⟩
  have HM := Lib.hid hm'
  rw [hm'] at d0 ha hl
  have HA := Lib.hid ha
  have HC := Lib.hid hl
  clear ha hl hm'
  go_enter Try.func82, Try.ntmps82
  go_wp2_with fail
  go_loopw [9, 10] (fun x9 x10 wr => ∃ (n i : Nat), x9 = .int .u64 n ∧ x10 = .int .i64 i ∧ i ≤ last ∧ n < 128 ^ i ∧ gr (last + 1) most bs (last + 1 - i) i n (at_ + i) = G ∧ ∃ q, w.drewN q = wr) (fun _ x10 _ => last + 1 - (intOf x10).toNat)
  case atStart => exact ⟨0, 0, rfl, rfl, Nat.zero_le _, by simp, HG.out.symm, 0, rfl⟩
  case round =>
    obtain ⟨n, i, rfl, rfl, hi, hn, hg, q, rfl⟩ := hrel
    have HGG := Lib.hid hg
    have HN := Lib.hid hn
    clear hg hn
    have hd : decide ((i : Int) ≤ (last : Int)) = true := by simp; omega
    have hd' : decide (i ≤ last) = true := by simp; omega
    obtain ⟨a, haa⟩ : ∃ a, a = at_ + i := ⟨_, rfl⟩
    have HAA := Lib.hid haa
    have hw1 : IntKind.i64.wrap ((at_ : Int) + (i : Int)) = (a : Int) := by have := HA.out; have := HC.out; rw [IntWalk.i64_in _ (by omega)]; omega
    obtain ⟨k, hk⟩ : ∃ k, last + 1 - i = k + 1 := ⟨last - i, by omega⟩
    rw [hk, ← haa] at HGG
    clear haa
    by_cases hal : a < m
    · have hb1 : decide ((m : Int) ≤ (a : Int)) = false := by simp; omega
      have hb2 : decide (m ≤ a) = false := by simp; omega
      have hix : a < bs.length := by rw [HM.out]; exact hal
      obtain ⟨gv, c', hvv, hcell, hlc⟩ := xr_byte HS.out a hix
      simp only [] at hvv hcell hlc
      obtain ⟨rfl, rfl⟩ : A = Option.some ⟨gv, 0, none⟩ ∧ c = c' := by simpa using hvv
      obtain ⟨z, hz⟩ : ∃ z, bs[a].toNat = z := ⟨_, rfl⟩
      have hz8 : z < 256 := by rw [← hz]; exact bs[a].toNat_lt
      rw [show bv bs[a] = .int .u8 z by rw [← hz]; rfl] at hcell
      have HGG2 : Hid ((if i + 1 = last + 1 ∧ most < z then (0, a + 1, 11) else if 0 < i ∧ z = 0 then (0, a + 1, 12) else if z < 128 then (n + z * 128 ^ i, a + 1, 0) else gr (last + 1) most bs k (i + 1) (n + (z - 128) * 128 ^ i) (a + 1)) = G) := by
        have := HGG.out
        rw [gr, dif_pos hix, hz] at this
        exact this
      clear HGG hz hvv hlc hix
      have hb3 : decide ((a : Int) < (m : Int)) = true := by simp; omega
      have hb4 : decide (a < m) = true := by simp; omega
      by_cases t1 : i = last ∧ most < z
      · obtain ⟨rfl, t1⟩ := t1
        have hd2 : decide ((most : Int) < (z : Int)) = true := by simp; omega
        have hd3 : decide (most < z) = true := by simp; omega
        go_wp2_with fail
        go_quiet (fail)
        go_wp2_with fail
        go_quiet (fail)
        go_wp2_with fail
        go_ret3
        have h1 := HGG2.out
        rw [if_pos ⟨trivial, t1⟩] at h1
        have h3 := HLG.out
        rw [← h1] at h3
        simp at h3
        subst h3
        exact ⟨rfl, _, rfl⟩
      · have HGG3 := HGG2.out
        rw [if_neg (show ¬ (i + 1 = last + 1 ∧ most < z) by omega)] at HGG3
        have HG4 := Lib.hid HGG3
        clear HGG2 HGG3
        have HOR := Lib.hid (or_look n z i hz8 HN.out (by omega) (fun h => by
          have := Nat.mod_lt z (show 0 < 128 by omega)
          have := ht2 (by omega)
          have : z ≤ most := by
            rcases Nat.lt_or_ge most z with h1 | h1
            · exact absurd ⟨by omega, h1⟩ t1
            · exact h1
          omega))
        have HA1 : (i < last ∧ ((i : Int) == (last : Int)) = false) ∨ (i = last ∧ decide (most < z) = false) := by
          by_cases h : i = last
          · right; exact ⟨h, by simp; omega⟩
          · left; exact ⟨by omega, by simp; omega⟩
        have hi10 : i ≤ 9 := by omega
        have HK := Lib.hid hk
        clear hk
        by_cases t3 : z < 128
        · have e1 : decide ((z : Int) < 128) = true := by simp; omega
          have e1' : decide (z < 128) = true := by simp; omega
          by_cases t2 : 0 < i ∧ z = 0
          · have e2 : ((z : Int) == 0) = true := by simp; omega
            have e3 : decide (0 < (i : Int)) = true := by simp; omega
            have e3' : decide (0 < i) = true := by simp; omega
            have HL2 : Hid (L = (0, 0, 12)) := Lib.hid <| by
              have h1 := HG4.out
              rw [if_pos t2] at h1
              have h3 := HLG.out
              rw [← h1] at h3
              simpa using h3
            clear t2 HG4 HLG
            rcases HA1 with ⟨q0, q1⟩ | ⟨rfl, q1⟩
            all_goals
              go_wp2_with fail
              go_quiet (fail)
              go_wp2_with fail
              go_quiet (fail)
              go_wp2_with fail
              go_ret3
              rw [HL2.out]
              exact ⟨rfl, _, rfl⟩
          · have HL2 : Hid (L = (n + (z % 128) * 128 ^ i, i + 1, 0)) := Lib.hid <| by
              have h1 := HG4.out
              rw [if_neg t2, if_pos t3] at h1
              have h3 := HLG.out
              rw [← h1] at h3
              have h4 := HAA.out
              rw [Nat.mod_eq_of_lt t3]
              rw [h3, if_pos rfl]
              simp only [h4]
              rw [show at_ + i + 1 - at_ = i + 1 by omega]
            have HA2 : (((z : Int) == 0) = false ∧ True) ∨ (((z : Int) == 0) = true ∧ decide (0 < i) = false) := by
              by_cases h : z = 0
              · right; exact ⟨by simp; omega, by simp; omega⟩
              · left; exact ⟨by simp; omega, trivial⟩
            clear t2 HG4 HLG
            rcases HA2 with ⟨q2, q3⟩ | ⟨q2, q3⟩ <;> rcases HA1 with ⟨q0, q1⟩ | ⟨rfl, q1⟩
            all_goals
              go_wp2_with fail
              go_quiet (fail)
              go_wp2_with fail
              go_quiet (fail)
              go_wp2_with fail
              go_ret3
              rw [HL2.out]
              have h6 := HOR.out
              refine ⟨?_, _, rfl⟩
              simp [h6]
        · have e1 : decide ((z : Int) < 128) = false := by simp; omega
          have e1' : decide (z < 128) = false := by simp; omega
          rcases HA1 with ⟨q0, q1⟩ | ⟨rfl, q1⟩
          · go_wp2_with fail
            go_quiet (fail)
            go_wp2_with fail
            go_quiet (fail)
            go_wp2_with fail
            go_roundw
            case rel =>
              refine ⟨n + (z % 128) * 128 ^ i, i + 1, by rw [HOR.out], by simp, by omega, ?_, ?_, _, rfl⟩
              · have h1 := HN.out
                have h2 := Nat.mod_lt z (show 0 < 128 by omega)
                have h3 : (z % 128) * 128 ^ i ≤ 127 * 128 ^ i := Nat.mul_le_mul_right _ (by omega)
                rw [Nat.pow_succ]
                omega
              · have h1 := HG4.out
                rw [if_neg (by omega), if_neg t3] at h1
                rw [← h1, show last + 1 - (i + 1) = k by have := HK.out; omega, show z % 128 = z - 128 by omega, show at_ + (i + 1) = a + 1 by have := HAA.out; omega]
            case measure => simp [intOf]; omega
          · exfalso
            simp at q1
            omega
    · have hb1 : decide ((m : Int) ≤ (a : Int)) = true := by simp; omega
      have hb2 : decide (m ≤ a) = true := by simp; omega
      go_wp2_with fail
      go_quiet (fail)
      go_wp2_with fail
      go_ret3
      have h1 := HGG.out
      have h2 := HM.out
      rw [gr, dif_neg (by omega)] at h1
      have h3 := HLG.out
      rw [← h1] at h3
      simp at h3
      subst h3
      exact ⟨rfl, _, (drewN_two _ _ _).symm⟩
end Go.Proofs.Ytkpgdonpmfebaaa.Bt

/- The reference's reader: its methods but Bytes and Text. -/
namespace Go.Proofs.Ytkpgdonpmfebaaa.Bt
open Go.RowKit Go.Hp
attribute [local go_sem] min2_lean min_two max2_lean max_two
set_option linter.unusedSimpArgs false
set_option linter.unusedVariables false
set_option maxRecDepth 100000

theorem lk_bounds (last most : Nat) (bs : List UInt8) (a : Nat) (ha : a ≤ bs.length) : a + (lk last most bs a).2.1 ≤ bs.length := by
  have hp := gr_place (last + 1) most bs (last + 1) 0 0 a ha
  unfold lk
  generalize gr (last + 1) most bs (last + 1) 0 0 a = q at *
  simp only []
  split
  · show a + (q.2.1 - a) ≤ _; omega
  · show a + 0 ≤ _; omega
theorem lk_small (bs : List UInt8) (a : Nat) : (lk 8 127 bs a).1 < 9223372036854775808 := by
  have hv := gr_val 9 127 bs 9 0 0 a rfl (by decide)
  have h128 : (128 : Nat) ^ 9 = 9223372036854775808 := by decide
  unfold lk
  simp only [Nat.reduceAdd]
  generalize gr 9 127 bs 9 0 0 a = q at *
  split
  · show q.1 < _; omega
  · show 0 < _; omega
theorem lk_wide (bs : List UInt8) (a : Nat) : (lk 9 1 bs a).1 < 2 ^ 64 := by
  have hv := gr_val10 bs 10 0 0 a rfl (by decide) (by omega)
  unfold lk
  simp only [Nat.reduceAdd]
  generalize gr 10 1 bs 10 0 0 a = q at *
  split
  · rename_i h; exact hv h
  · show 0 < _; omega
theorem lk_none (last most : Nat) (bs : List UInt8) (a : Nat) (h : (lk last most bs a).2.2 ≠ 0) : (lk last most bs a).1 = 0 ∧ (lk last most bs a).2.1 = 0 := by
  unfold lk at h ⊢
  simp only [] at h ⊢
  split at h
  · exact absurd rfl h
  · rename_i h1; rw [if_neg h1]; exact ⟨rfl, rfl⟩
theorem num_lk (x : RdS) (most : Int) (h : x.e = 0) (ha : x.at_ ≤ x.bs.length) : x.num most = if (lk 8 127 x.bs x.at_).2.2 = 0 then (if most < (lk 8 127 x.bs x.at_).1 then (0, { x with e := 13 }) else (((lk 8 127 x.bs x.at_).1 : Int), { x with at_ := x.at_ + (lk 8 127 x.bs x.at_).2.1 })) else (0, { x with e := (lk 8 127 x.bs x.at_).2.2 }) := by
  have hp := gr_place 9 127 x.bs 9 0 0 x.at_ ha
  unfold RdS.num numOf lk ItS.ended
  simp only [Nat.reduceAdd]
  generalize gr 9 127 x.bs 9 0 0 x.at_ = q at *
  rw [if_pos h]
  by_cases h1 : q.2.2 = 0
  · simp only [h1, if_true, h]
    by_cases h2 : most < (q.1 : Int)
    · simp [h2]
    · simp [h2]; omega
  · simp [h1, h]
theorem signed_lk (x : RdS) (h : x.e = 0) (ha : x.at_ ≤ x.bs.length) : x.signed = if (lk 9 1 x.bs x.at_).2.2 = 0 then (uz (lk 9 1 x.bs x.at_).1, { x with at_ := x.at_ + (lk 9 1 x.bs x.at_).2.1 }) else (0, { x with e := (lk 9 1 x.bs x.at_).2.2 }) := by
  have hp := gr_place 10 1 x.bs 10 0 0 x.at_ ha
  unfold RdS.signed lk ItS.ended
  simp only [Nat.reduceAdd]
  generalize gr 10 1 x.bs 10 0 0 x.at_ = q at *
  rw [if_pos h]
  by_cases h1 : q.2.2 = 0
  · simp only [h1, if_true, h]
    simp; omega
  · simp [h1, h]
theorem some_lk (x : RdS) (most : Int) (h : x.e = 0) (ha : x.at_ ≤ x.bs.length) : x.some most = if (lk 8 127 x.bs x.at_).2.2 = 0 then
      (if most < (lk 8 127 x.bs x.at_).1 then ([], { x with e := 14 }) else if x.bs.length - (x.at_ + (lk 8 127 x.bs x.at_).2.1) < (lk 8 127 x.bs x.at_).1 then ([], { x with e := 10 })
        else ((x.bs.drop (x.at_ + (lk 8 127 x.bs x.at_).2.1)).take (lk 8 127 x.bs x.at_).1, { x with at_ := x.at_ + (lk 8 127 x.bs x.at_).2.1 + (lk 8 127 x.bs x.at_).1 })) else ([], { x with e := (lk 8 127 x.bs x.at_).2.2 }) := by
  have hp := gr_place 9 127 x.bs 9 0 0 x.at_ ha
  unfold RdS.some someOf numOf lk ItS.ended
  simp only [Nat.reduceAdd]
  generalize gr 9 127 x.bs 9 0 0 x.at_ = q at *
  rw [if_pos h]
  by_cases h1 : q.2.2 = 0
  · simp only [h1, if_true, h]
    by_cases h2 : most < (q.1 : Int)
    · simp [h2]
    · have e : x.at_ + (q.2.1 - x.at_) = q.2.1 := by omega
      simp only [if_neg h2, e, if_true]
      by_cases h3 : x.bs.length - q.2.1 < q.1
      · rw [if_pos (show (x.bs.length : Int) - (q.2.1 : Int) < (q.1 : Int) by omega), if_pos h3]
        simp
      · rw [if_neg (show ¬ (x.bs.length : Int) - (q.2.1 : Int) < (q.1 : Int) by omega), if_neg h3]
        simp
  · simp [h1, h]
theorem Turns.and_then {w W W' : World} {O O' O'' : Hp.Own} (t : Turns w W O O') (f : O'.holds W → Turns W W' O' O'') : Turns w W' O O'' := t.trans (f t.now)
theorem uz_i64 (n : Nat) (h : n % 2 = 1) : uz n = -((n / 2 : Nat) : Int) - 1 := by unfold uz; rw [if_neg (by omega)]
section
variable (x : RdS) (w : World) (hs : x.xown.holds w) (hg : x.good)
include hs hg
theorem xnum_any (most : Int) : Calls Try.prog 71 #[.pointer (some ⟨x.g, 0, none⟩), .int .i64 most] w fun q w' => q = .returned (.int .i64 (x.num most).1) ∧ Turns w w' x.xown (x.num most).2.xown := by
  obtain ⟨d0, d1, d2, f1, f2⟩ := xr_cells hs
  have HS := Lib.hid hs
  by_cases h : x.e = 0
  · have HO := Lib.hid (look_any x 8 127 w hs hg.1 hg.2 (by omega) (by omega) (by omega))
    have hbd := lk_bounds 8 127 x.bs x.at_ hg.1
    have hsm := lk_small x.bs x.at_
    rw [num_lk x most h hg.1]
    have hl := hg.2
    generalize lk 8 127 x.bs x.at_ = L at *
    obtain ⟨n, k, e⟩ := L
    simp only [] at HO hbd hsm ⊢
    rw [h] at d2
    have hcv : IntKind.i64.wrap (n : Int) = (n : Int) := IntWalk.i64_in _ (by omega)
    have hw : IntKind.i64.wrap ((x.at_ : Int) + (k : Int)) = ((x.at_ + k : Nat) : Int) := by rw [IntWalk.i64_in _ (by omega)]; omega
    clear hs
    by_cases h1 : e = 0
    · subst h1
      rw [if_pos rfl]
      by_cases h2 : most < (n : Int)
      · rw [if_pos h2]
        have e2 : decide (most < (n : Int)) = true := by simpa using h2
        go_enter Try.func71, Try.ntmps71
        go_wp2_with (go_at_call 82; refine HO.out.mono ?_; rintro q w1 ⟨rfl, m, rfl⟩)
        go_ret
        exact ⟨rfl, ((Turns.refl HS.out).drewN m).trans (xr_setE (by exact ((Turns.refl HS.out).drewN m).now) 13)⟩
      · rw [if_neg h2]
        have e2 : decide (most < (n : Int)) = false := by simpa using h2
        go_enter Try.func71, Try.ntmps71
        go_wp2_with (go_at_call 82; refine HO.out.mono ?_; rintro q w1 ⟨rfl, m, rfl⟩)
        go_ret
        exact ⟨rfl, ((Turns.refl HS.out).drewN m).trans (xr_setAt (by exact ((Turns.refl HS.out).drewN m).now) (x.at_ + k) _ (by simp))⟩
    · rw [if_neg h1]
      have e1 : (e == 0) = false := by simpa using h1
      go_enter Try.func71, Try.ntmps71
      go_wp2_with (go_at_call 82; refine HO.out.mono ?_; rintro q w1 ⟨rfl, m, rfl⟩)
      go_ret
      exact ⟨rfl, ((Turns.refl HS.out).drewN m).trans (xr_setE (by exact ((Turns.refl HS.out).drewN m).now) e)⟩
  · have e1 : (x.e == 0) = false := by simpa using h
    have e2 : (x.e != 0) = true := by simpa using h
    have hF : x.num most = (0, x) := by unfold RdS.num; rw [if_neg h]
    rw [hF]
    clear hs
    go_enter Try.func71, Try.ntmps71
    go_wp2
    go_ret
    exact ⟨rfl, Turns.refl HS.out⟩
theorem xsigned_any : Calls Try.prog 72 #[.pointer (some ⟨x.g, 0, none⟩)] w fun q w' => q = .returned (.int .i64 x.signed.1) ∧ Turns w w' x.xown x.signed.2.xown := by
  obtain ⟨d0, d1, d2, f1, f2⟩ := xr_cells hs
  have HS := Lib.hid hs
  by_cases h : x.e = 0
  · have HO := Lib.hid (look_any x 9 1 w hs hg.1 hg.2 (by omega) (by omega) (by omega))
    have hbd := lk_bounds 9 1 x.bs x.at_ hg.1
    have hsm := lk_wide x.bs x.at_
    rw [signed_lk x h hg.1]
    have hl := hg.2
    generalize lk 9 1 x.bs x.at_ = L at *
    obtain ⟨n, k, e⟩ := L
    simp only [] at HO hbd hsm ⊢
    rw [h] at d2
    have hw : IntKind.i64.wrap ((x.at_ : Int) + (k : Int)) = ((x.at_ + k : Nat) : Int) := by rw [IntWalk.i64_in _ (by omega)]; omega
    clear hs
    by_cases h1 : e = 0
    · subst h1
      rw [if_pos rfl]
      unfold uz
      by_cases h2 : n % 2 = 0
      · rw [if_pos h2]
        have hm : ((n : Int) % 2 == 1) = false := by simp; omega
        have hq : IntKind.i64.wrap ((n : Int) / 2) = ((n / 2 : Nat) : Int) := by rw [IntWalk.i64_in _ (by omega)]; omega
        go_enter Try.func72, Try.ntmps72
        go_wp2_with (go_at_call 82; refine HO.out.mono ?_; rintro q w1 ⟨rfl, m, rfl⟩)
        go_ret
        exact ⟨rfl, ((Turns.refl HS.out).drewN m).trans (xr_setAt (by exact ((Turns.refl HS.out).drewN m).now) (x.at_ + k) _ (by simp))⟩
      · rw [if_neg h2]
        have hm : ((n : Int) % 2 == 1) = true := by simp; omega
        have hq : IntKind.i64.wrap ((n : Int) / 2) = ((n / 2 : Nat) : Int) := by rw [IntWalk.i64_in _ (by omega)]; omega
        have hq2 : IntKind.i64.wrap (-((n / 2 : Nat) : Int)) = -((n / 2 : Nat) : Int) := by rw [IntWalk.i64_in _ (by omega)]
        have hq3 : IntKind.i64.wrap (-((n / 2 : Nat) : Int) - 1) = -((n / 2 : Nat) : Int) - 1 := by rw [IntWalk.i64_in _ (by omega)]
        go_enter Try.func72, Try.ntmps72
        go_wp2_with (go_at_call 82; refine HO.out.mono ?_; rintro q w1 ⟨rfl, m, rfl⟩)
        go_ret
        exact ⟨rfl, ((Turns.refl HS.out).drewN m).trans (xr_setAt (by exact ((Turns.refl HS.out).drewN m).now) (x.at_ + k) _ (by simp))⟩
    · rw [if_neg h1]
      have e1 : (e == 0) = false := by simpa using h1
      go_enter Try.func72, Try.ntmps72
      go_wp2_with (go_at_call 82; refine HO.out.mono ?_; rintro q w1 ⟨rfl, m, rfl⟩)
      go_ret
      exact ⟨rfl, ((Turns.refl HS.out).drewN m).trans (xr_setE (by exact ((Turns.refl HS.out).drewN m).now) e)⟩
  · have e1 : (x.e == 0) = false := by simpa using h
    have e2 : (x.e != 0) = true := by simpa using h
    have hF : x.signed = (0, x) := by unfold RdS.signed; rw [if_neg h]
    rw [hF]
    clear hs
    go_enter Try.func72, Try.ntmps72
    go_wp2
    go_ret
    exact ⟨rfl, Turns.refl HS.out⟩
omit hg in
theorem xbool_any (hg : x.good) : Calls Try.prog 74 #[.pointer (some ⟨x.g, 0, none⟩)] w fun q w' => q = .returned (.bool x.bool.1) ∧ Turns w w' x.xown x.bool.2.xown := by
  obtain ⟨g, v, bs, a, e⟩ := x
  obtain ⟨d0, d1, d2, f1, f2⟩ := xr_cells hs
  have HS := Lib.hid hs
  obtain ⟨A, c, hv⟩ := xr_form hs
  simp only [] at d0 d1 d2 f1 f2 hv
  subst hv
  by_cases h : e = 0
  · subst h
    obtain ⟨m, hm⟩ : ∃ m, bs.length = m := ⟨_, rfl⟩
    have hl := hg.2
    simp only [] at hl
    rw [hm] at hl
    rw [hm] at d0
    by_cases ha : a < bs.length
    · obtain ⟨gv, c', hvv, hcell, hlc⟩ := xr_byte hs a ha
      simp only [] at hvv hcell hlc
      obtain ⟨rfl, rfl⟩ : A = Option.some ⟨gv, 0, none⟩ ∧ c = c' := by simpa using hvv
      obtain ⟨z, hz⟩ : ∃ z, bs[a].toNat = z := ⟨_, rfl⟩
      rw [show bv bs[a] = .int .u8 z by rw [← hz]; rfl] at hcell
      have hG : boolOf bs a = if 1 < z then (false, a + 1, 12) else (decide (z = 1), a + 1, 0) := by rw [boolOf, dif_pos ha, hz]
      have hb : ∀ v, (RdS.mk g v bs a 0).bool = if 1 < z then (false, RdS.mk g v bs a 12) else (decide (z = 1), RdS.mk g v bs (a + 1) 0) := by
        intro v
        unfold RdS.bool ItS.ended
        simp only [if_true, hG]
        by_cases h1 : 1 < z <;> simp [h1]
      rw [hb]
      have e1 : decide ((m : Int) ≤ (a : Int)) = false := by simp; omega
      have e1' : decide (m ≤ a) = false := by simp; omega
      have e2 : decide ((a : Int) < (m : Int)) = true := by simp; omega
      have e2' : decide (a < m) = true := by simp; omega
      have ham : a < m := by omega
      have HM := Lib.hid hm
      have HAL := Lib.hid ha
      have HZ : Hid (bv bs[a] = .int .u8 z) := Lib.hid (by rw [← hz]; rfl)
      clear hs hG hb hz hvv hlc hm ha
      by_cases h1 : 1 < z
      · rw [if_pos h1]
        have e3 : decide (1 < (z : Int)) = true := by simp; omega
        have e3' : decide (1 < z) = true := by simp; omega
        go_enter Try.func74, Try.ntmps74
        go_wp2_with fail
        go_quiet (fail)
        go_wp2_with fail
        go_quiet (fail)
        go_wp2_with fail
        go_ret
        refine ⟨rfl, Turns.and_then ?_ fun h => xr_setE (s := RdS.mk g _ bs a 0) h 12⟩
        exact (Turns.refl HS.out).drewN _
      · rw [if_neg h1]
        have e3 : decide (1 < (z : Int)) = false := by simp; omega
        have e3' : decide (1 < z) = false := by simp; omega
        have hw : IntKind.i64.wrap ((a : Int) + 1) = ((a + 1 : Nat) : Int) := by rw [IntWalk.i64_in _ (by omega)]; omega
        go_enter Try.func74, Try.ntmps74
        go_wp2_with fail
        go_quiet (fail)
        go_wp2_with fail
        go_quiet (fail)
        go_wp2_with fail
        generalize hW : World.setCell _ (⟨g, 1, none⟩ : Addr) _ = W
        have HT : Hid (Turns w W (RdS.mk g (.slice (Option.some ⟨gv, 0, none⟩) bs.length c) bs a 0).xown (RdS.mk g (.slice (Option.some ⟨gv, 0, none⟩) bs.length c) bs (a + 1) 0).xown) := Lib.hid <| by
          rw [← hW]
          exact Turns.and_then ((Turns.refl HS.out).drewN _) fun h => xr_setAt (s := RdS.mk g _ bs a 0) h (a + 1) _ (by simp)
        clear hW d0 d1 d2 f1 f2 hcell
        obtain ⟨d0, d1, d2, f1, f2⟩ := xr_cells HT.out.now
        obtain ⟨gv', c', hvv, hcell, hlc⟩ := xr_byte HT.out.now a HAL.out
        simp only [] at d0 d1 d2 hvv hcell hlc
        obtain ⟨rfl, rfl⟩ : gv = gv' ∧ c = c' := by simpa using hvv
        have hcell2 : W.cell? ⟨gv, a, none⟩ = Option.some (.int .u8 z) := hcell.trans (congrArg Option.some HZ.out)
        clear hcell
        rw [HM.out] at d0
        rw [show (((a + 1 : Nat)) : Int) = (a : Int) + 1 by simp] at d1
        have hw2 : IntKind.i64.wrap ((a : Int) + 1 - 1) = (a : Int) := by rw [IntWalk.i64_in _ (by omega)]; omega
        clear hvv hlc
        go_quiet (fail)
        go_wp2_with fail
        go_ret
        refine ⟨?_, HT.out.drewN _⟩
        have hz1 : ((z : Int) == 1) = decide (z = 1) := by
          by_cases h : z = 1
          · simp [h]
          · have : ¬ (z : Int) = 1 := by omega
            simp [h, this]
        rw [← hz1]
        rfl
    · have hb : ∀ v, (RdS.mk g v bs a 0).bool = (false, RdS.mk g v bs a 10) := by
        intro v
        unfold RdS.bool ItS.ended
        simp only [if_true]
        rw [boolOf, dif_neg ha]
        simp
      rw [hb]
      have e1 : decide ((m : Int) ≤ (a : Int)) = true := by simp; omega
      have e1' : decide (m ≤ a) = true := by simp; omega
      have ham : ¬ a < m := by omega
      clear hs hb hm ha
      go_enter Try.func74, Try.ntmps74
      go_wp2_with fail
      go_quiet (fail)
      go_wp2_with fail
      go_ret
      refine ⟨rfl, Turns.and_then ?_ fun h => xr_setE (s := RdS.mk g _ bs a 0) h 10⟩
      exact (Turns.refl HS.out).drewN _
  · have e1 : (e == 0) = false := by simpa using h
    have e2 : (e != 0) = true := by simpa using h
    have hF : ∀ v, (RdS.mk g v bs a e).bool = (false, RdS.mk g v bs a e) := by intro v; unfold RdS.bool; rw [if_neg h]
    rw [hF]
    clear hs
    go_enter Try.func74, Try.ntmps74
    go_wp2
    go_ret
    exact ⟨rfl, Turns.refl HS.out⟩
omit hg in
theorem xfail_any (c : Int) : Calls Try.prog 78 #[.pointer (some ⟨x.g, 0, none⟩), .int .i64 c] w fun q w' => q = .returned (.tuple #[]) ∧ Turns w w' x.xown (if x.e = 0 then { x with e := c } else x : RdS).xown := by
  obtain ⟨d0, d1, d2, g1, g2⟩ := xr_cells hs
  have HS := Lib.hid hs
  clear hs
  by_cases h : x.e = 0
  · rw [if_pos h]
    rw [h] at d2
    go_enter Try.func78, Try.ntmps78
    go_wp2
    go_end0
    exact ⟨rfl, xr_setE HS.out c⟩
  · rw [if_neg h]
    have hd : (x.e == 0) = false := by simpa using h
    go_enter Try.func78, Try.ntmps78
    go_wp2
    go_end0
    exact ⟨rfl, Turns.refl HS.out⟩
omit hg in
theorem xerr_any : Calls Try.prog 30 #[.pointer (some ⟨x.g, 0, none⟩)] w fun q w' => q = .returned (.tuple #[.int .i64 x.e, .int .i64 x.at_]) ∧ ∃ n, w.drewN n = w' := by
  obtain ⟨d0, d1, d2, g1, g2⟩ := xr_cells hs
  clear hs
  go_enter Try.func30, Try.ntmps30
  go_wp2
  go_quiet (fail)
  go_wp2
  go_ret2
  exact ⟨rfl, _, rfl⟩
omit hg in
theorem xclose_any : Calls Try.prog 79 #[.pointer (some ⟨x.g, 0, none⟩)] w fun q w' => q = .returned (.int .i64 x.closed.e) ∧ Turns w w' x.xown x.closed.xown := by
  obtain ⟨d0, d1, d2, g1, g2⟩ := xr_cells hs
  obtain ⟨A, c, hf⟩ := xr_form hs
  rw [hf] at d0
  have HS := Lib.hid hs
  unfold RdS.closed
  clear hs
  by_cases h : x.e = 0
  · rw [h] at d2
    by_cases h1 : x.at_ < x.bs.length
    · rw [if_pos h1, if_pos h]
      have hd : decide ((x.at_ : Int) < (x.bs.length : Int)) = true := by simp; omega
      have hd' : decide (x.at_ < x.bs.length) = true := by simpa using h1
      go_enter Try.func79, Try.ntmps79
      go_wp2
      go_quiet (fail)
      go_wp2
      go_ret
      refine ⟨rfl, Turns.and_then ?_ fun h => xr_setE h 15⟩
      exact (Turns.refl HS.out).drewN _
    · rw [if_neg h1]
      have hd : decide ((x.at_ : Int) < (x.bs.length : Int)) = false := by simp; omega
      have hd' : decide (x.at_ < x.bs.length) = false := by simpa using h1
      go_enter Try.func79, Try.ntmps79
      go_wp2
      go_quiet (fail)
      go_wp2
      go_ret
      rw [h]
      exact ⟨rfl, (Turns.refl HS.out).drewN _⟩
  · have e1 : (x.e == 0) = false := by simpa using h
    have hF : (if x.at_ < x.bs.length then (if x.e = 0 then { x with e := 15 } else x) else x : RdS) = x := by rw [if_neg h]; split <;> rfl
    rw [hF]
    go_enter Try.func79, Try.ntmps79
    go_wp2
    go_quiet (fail)
    go_wp2
    go_ret
    exact ⟨rfl, (Turns.refl HS.out).drewN _⟩
end
end Go.Proofs.Ytkpgdonpmfebaaa.Bt

/- The reference's reader: Bytes, Text, NewReader. -/
namespace Go.Proofs.Ytkpgdonpmfebaaa.Bt
open Go.RowKit Go.Hp
attribute [local go_sem] min2_lean min_two max2_lean max_two
set_option linter.unusedSimpArgs false
set_option linter.unusedVariables false
set_option maxRecDepth 100000

/-- A slice behind an empty literal, as a step of a region that draws. -/
theorem step_app0 {P : Program} {w w1 : World} {ops : Array Oper} {o : Oper} {a : Act} {K : Act → World → Prop} {Q : Exit → Act → World → Prop} {E : Prop} (hgd : o.guard = none) (s x : Operand) (t : TypeId)
    (ho : o.op = .call { callee := .builtin .append, args := #[s, x], argTypes := #[t, t] })
    (e : TypeId) (i : TypeInfo) (z : Value) (bytes : Nat) (ht : P.underlying t = some (.slice e)) (hi : P.info? e = some i) (hz : i.zero = some z)
    (hsize : i.size = 1) (hby : i.bytes = bytes) (hzs : z.cells.size = 1)
    (b0 : Nat) (hs : a.eval s = .slice (some ⟨b0, 0, none⟩) 0 0) (hT : Turns w w1 Hp.Own.emp (Hp.Own.row e 1 (.slice (some ⟨b0, 0, none⟩) 0 0) 0 [])) (v : Value) (m : Nat) (news : List Value) (hx : a.eval x = v) (hsrc : Src w v m 1 news)
    (h1 : ∀ u ∈ news, u.oneCell' = true) (h63 : m ≤ maxLen) (hbytes : m * bytes ≤ 140737488355328)
    (h : ∀ A c w', Turns w w' Hp.Own.emp (Hp.Own.row e 1 (.slice A m c) m news) → K (a.put o.dst (.slice A m c)) w') :
    if Region.wanted o (yielded ops a.tmps) = true then Oper.wp P o a w1 K Q else E := by
  have hw : Region.wanted o (yielded ops a.tmps) = true := by simp [Region.wanted, hgd]
  rw [if_pos hw]
  have hS : Src w1 v m 1 news := Src.keep hsrc (hT.chg.mono fun _ _ h => h)
  refine wp_append_src _ s x t ho 0 e i z 1 bytes ht hi hz hsize hby hzs (by decide) _ 0 [] hs hT.now v m news hx hS h1 (by omega) (by simpa using hbytes) (Nat.zero_le _) ?_
  intro v' w' ho' hg' hat
  rw [Nat.zero_add, List.nil_append] at ho'
  obtain ⟨A, c, rfl⟩ := row_slice ho'
  exact h A c w' (hT.trans (Turns.row ho' hg' hat))
/-- A piece of a row, as a source. -/
theorem src_cut {w : World} {gv c : Nat} {bs : List UInt8} {m q M n : Nat} (h : w.ownsRow 0 5 1 (.slice (some ⟨gv, 0, none⟩) m c) m (bs.map bv)) (hm : bs.length = m) (hM : q + n = M) (hf : M ≤ m) (hc : m ≤ c) :
    Src w (.slice (if c = q then some ⟨gv, 0, none⟩ else some ⟨gv, q, none⟩) (M - q) (c - q)) n 1 (((bs.drop q).take n).map bv) := by
  have hnn : M - q = n := by omega
  rw [hnn]
  refine ⟨by rw [List.length_map, List.length_take, List.length_drop]; omega, Or.inr ?_⟩
  have hrow := World.ownsRow.cells (g := gv) h rfl
  by_cases hcq : c = q
  · rw [if_pos hcq]
    have h0 : n = 0 := by omega
    subst h0
    exact ⟨_, _, rfl, fun j u hu => by simp at hu⟩
  · rw [if_neg hcq]
    refine ⟨_, _, rfl, fun j u hu => ?_⟩
    have ha1 : (⟨gv, q, none⟩ : Addr).add j = (⟨gv, 0, none⟩ : Addr).add (q + j) := by
      unfold Addr.add
      by_cases h1 : j = 0 <;> by_cases h2 : q + j = 0 <;> simp_all
    rw [ha1]
    refine hrow (q + j) u ?_
    rw [List.getElem?_map] at hu ⊢
    rw [List.getElem?_take] at hu
    split at hu
    · rwa [List.getElem?_drop] at hu
    · simp at hu
theorem lk_full (last most : Nat) (bs : List UInt8) (a : Nat) (h : (lk last most bs a).2.2 = 0) : bs ≠ [] := by
  rintro rfl
  unfold lk at h
  simp only [] at h
  split at h
  · rename_i h1
    rw [gr, dif_neg (by simp)] at h1
    simp at h1
  · rename_i h1; exact h1 h
theorem Hp_row_nil (w : World) : (Hp.Own.row 5 1 (.slice none 0 0) 0 []).holds w := ⟨rfl, Or.inl ⟨rfl, rfl⟩⟩
theorem Turns.with_nil {w w' : World} {O O' : Hp.Own} (h : Turns w w' O O') : Turns w w' O (Hp.Own.both (Hp.Own.row 5 1 (.slice none 0 0) 0 []) O') :=
  ⟨h.chg, ⟨Hp_row_nil _, h.now, fun b hb => by cases hb⟩, fun b hb => hb.elim (fun hb => by cases hb) (h.near b)⟩
section
variable (x : RdS) (w : World) (hs : x.xown.holds w) (hg : x.good)
include hs hg
set_option maxHeartbeats 1000000 in
theorem xbytes_any (most : Int) : Calls Try.prog 32 #[.pointer (some ⟨x.g, 0, none⟩), .int .i64 most] w fun q w' => ∃ A c, q = .returned (.slice A (x.some most).1.length c) ∧
    Turns w w' x.xown (Hp.Own.both (Hp.Own.row 5 1 (.slice A (x.some most).1.length c) (x.some most).1.length ((x.some most).1.map bv)) (x.some most).2.xown) := by
  obtain ⟨g, v, bs, a, e⟩ := x
  obtain ⟨d0, d1, d2, f1, f2⟩ := xr_cells hs
  have HS := Lib.hid hs
  obtain ⟨A, c, hv⟩ := xr_form hs
  simp only [] at d0 d1 d2 f1 f2 hv
  obtain ⟨m, hm⟩ : ∃ m, bs.length = m := ⟨_, rfl⟩
  have HM := Lib.hid hm
  rw [hm] at hv
  subst hv
  by_cases h : e = 0
  · have HO := Lib.hid (look_any (RdS.mk g _ bs a e) 8 127 w hs hg.1 hg.2 (by omega) (by omega) (by omega))
    have hbd := lk_bounds 8 127 bs a hg.1
    have hsm := lk_small bs a
    rw [some_lk _ most h hg.1]
    subst h
    obtain ⟨hga, hl⟩ := hg
    simp only [] at hga hl HO hbd hsm ⊢
    have hno := lk_none 8 127 bs a
    have hfu := lk_full 8 127 bs a
    generalize lk 8 127 bs a = L at *
    obtain ⟨n, k, e⟩ := L
    simp only [] at HO hbd hsm hno hfu ⊢
    rw [hm] at hga hl hbd
    have hcv : IntKind.i64.wrap (n : Int) = (n : Int) := IntWalk.i64_in _ (by omega)
    have hw1 : IntKind.i64.wrap ((m : Int) - (a : Int)) = ((m - a : Nat) : Int) := by rw [IntWalk.i64_in _ (by omega)]; omega
    have hw2 : IntKind.i64.wrap (((m - a : Nat) : Int) - (k : Int)) = ((m - (a + k) : Nat) : Int) := by rw [IntWalk.i64_in _ (by omega)]; omega
    have HEE : Hid (∀ W z, (RdS.mk g (.slice A m c) bs a 0).xown.holds W → Turns W (W.setCell ⟨g, 2, none⟩ (.int .i64 z)) (RdS.mk g (.slice A m c) bs a 0).xown (Hp.Own.both (Hp.Own.row 5 1 (.slice none 0 0) 0 []) (RdS.mk g (.slice A m c) bs a z).xown)) :=
      Lib.hid fun W z h => Turns.with_nil (xr_setE h z)
    clear hs
    by_cases h1 : e = 0
    · subst h1
      simp only [if_true]
      by_cases h2 : most < (n : Int)
      · rw [if_pos h2]
        have e2 : decide (most < (n : Int)) = true := by simpa using h2
        go_enter Try.func32, Try.ntmps32
        go_wp2_with (go_at_call 82; refine HO.out.mono ?_; rintro q w1 ⟨rfl, q1, rfl⟩)
        go_quiet (fail)
        go_wp2_with fail
        go_ret
        refine ⟨none, 0, rfl, Turns.and_then ?_ fun h => HEE.out _ 14 h⟩
        exact (Turns.refl HS.out).drewN _
      · rw [if_neg h2]
        have e2 : decide (most < (n : Int)) = false := by simpa using h2
        rw [HM.out]
        by_cases h3 : m - (a + k) < n
        · rw [if_pos h3]
          have e3 : decide (m - (a + k) < n) = true := by simp; omega
          have e3' : decide (((m - (a + k) : Nat) : Int) < (n : Int)) = true := by simp; omega
          go_enter Try.func32, Try.ntmps32
          go_wp2_with (go_at_call 82; refine HO.out.mono ?_; rintro q w1 ⟨rfl, q1, rfl⟩)
          go_quiet (fail)
          go_wp2_with fail
          go_ret
          refine ⟨none, 0, rfl, Turns.and_then ?_ fun h => HEE.out _ 10 h⟩
          exact (Turns.refl HS.out).drewN _
        · rw [if_neg h3]
          have e3 : decide (m - (a + k) < n) = false := by simp; omega
          have e3' : decide (((m - (a + k) : Nat) : Int) < (n : Int)) = false := by simp; omega
          obtain ⟨q2, hq2⟩ : ∃ q2, a + k = q2 := ⟨_, rfl⟩
          obtain ⟨M, hM⟩ : ∃ M, q2 + n = M := ⟨_, rfl⟩
          have HQ := Lib.hid hq2
          have HMM := Lib.hid hM
          have HC := Lib.hid hl
          have HB : Hid (1 ≤ bs.length) := Lib.hid (List.length_pos_iff.mpr (hfu rfl))
          have hMm : M ≤ m := by omega
          have hqM : q2 ≤ M := by omega
          have hw3 : IntKind.i64.wrap ((a : Int) + (k : Int)) = (q2 : Int) := by rw [IntWalk.i64_in _ (by omega)]; omega
          have hw4 : IntKind.i64.wrap ((q2 : Int) + (n : Int)) = (M : Int) := by rw [IntWalk.i64_in _ (by omega)]; omega
          rw [hq2] at hw2 e3 e3'
          rw [hq2, hM]
          obtain ⟨ls, hls⟩ : ∃ ls, (bs.drop q2).take n = ls := ⟨_, rfl⟩
          have HLS := Lib.hid hls
          have hll : ls.length = n := by rw [← hls, List.length_take, List.length_drop]; omega
          rw [hls, hll]
          have HLL := Lib.hid hll
          clear hls hll
          clear hq2 hM hno hfu
          go_enter Try.func32, Try.ntmps32
          go_wp2_with (go_at_call 82; refine HO.out.mono ?_; rintro q w1 ⟨rfl, q1, rfl⟩)
          go_quiet (fail)
          go_wp2_with fail
          generalize hW : World.setCell _ (⟨g, 1, none⟩ : Addr) _ = W
          have HT : Hid (Turns w W (RdS.mk g (.slice A m c) bs a 0).xown (RdS.mk g (.slice A m c) bs M 0).xown) := Lib.hid <| by
            rw [← hW]
            exact Turns.and_then ((Turns.refl HS.out).drewN _) fun h => xr_setAt (s := RdS.mk g _ bs a 0) h M _ (by simp)
          clear hW d0 d1 d2 f1 f2
          obtain ⟨d0, d1, d2, f1, f2⟩ := xr_cells HT.out.now
          have hlt : g < W.heap.size := Blk.lt HT.out.now.1
          have hro := HT.out.now.2.1
          simp only [] at d0 d1 d2
          have hbl : 1 ≤ bs.length := HB.out
          obtain ⟨gv, c', hvv, _, hlc⟩ := row_form hro hbl
          simp only [] at hvv hlc
          obtain ⟨rfl, rfl⟩ : A = Option.some ⟨gv, 0, none⟩ ∧ c = c' := by simp at hvv; exact ⟨hvv.1, hvv.2.2⟩
          rw [HM.out] at hlc
          have HSRC : Hid (Src W (.slice (if c = q2 then Option.some ⟨gv, 0, none⟩ else Option.some ⟨gv, q2, none⟩) (M - q2) (c - q2)) n 1 (ls.map bv)) := Lib.hid <| by
            have h9 : W.ownsRow 0 5 1 (.slice (Option.some ⟨gv, 0, none⟩) m c) m (bs.map bv) := by
              have := hro
              simp only [HM.out] at this
              exact this
            rw [← HLS.out]
            exact src_cut h9 HM.out HMM.out hMm hlc
          have hMc : M ≤ c := by omega
          clear hro hbl hvv f1 f2 d2
          obtain ⟨i0, hi0, hz0, hz1, hz2⟩ := info_parts Try.info5
          go_region_law (refine step_app0 rfl (.tmp 68) (.tmp 78) 38 rfl 5 i0 (.int .u8 0) 1 Try.underlying38 hi0 hz0 hz1 hz2 rfl _ rfl (by first | (with_reducible exact (Turns.row_lit W Hp.Own.emp #[] 5 1 0 (by simp [maxLen]) rfl).drew) | (with_reducible exact ((Turns.refl (O := Hp.Own.emp) trivial).drew).trans (Turns.row_lit W.drew Hp.Own.emp #[] 5 1 0 (by simp [maxLen]) rfl)) | exact (Turns.row_lit W Hp.Own.emp #[] 5 1 0 (by simp [maxLen]) rfl)) _ n (ls.map bv) rfl HSRC.out (fun u hu => by obtain ⟨b, _, rfl⟩ := List.mem_map.mp hu; rfl) (by have := HC.out; simp only [maxLen]; omega) (by have := HC.out; omega) ?_; intro A5 c5 w5 ht5; have HT5 := Lib.hid ht5; clear ht5)
          all_goals
            clear HSRC
            generalize (if c = q2 then (Option.some ⟨gv, 0, none⟩ : Option Addr) else Option.some ⟨gv, q2, none⟩) = zz
            go_wp2_with fail
            go_ret
            have h8 := HT.out.trans (Turns.addl HT.out.now HT5.out)
            exact ⟨A5, c5, rfl, h8⟩
    · rw [if_neg h1]
      have e1 : (e == 0) = false := by simpa using h1
      obtain ⟨rfl, rfl⟩ := hno h1
      go_enter Try.func32, Try.ntmps32
      go_wp2_with (go_at_call 82; refine HO.out.mono ?_; rintro q w1 ⟨rfl, q1, rfl⟩)
      go_quiet (fail)
      go_wp2_with fail
      go_ret
      refine ⟨none, 0, rfl, Turns.and_then ?_ fun h => HEE.out _ e h⟩
      exact (Turns.refl HS.out).drewN _
  · have e1 : (e == 0) = false := by simpa using h
    have e2 : (e != 0) = true := by simpa using h
    have hF : ∀ v, (RdS.mk g v bs a e).some most = ([], RdS.mk g v bs a e) := by intro v; unfold RdS.some; rw [if_neg h]
    rw [hF]
    clear hs
    go_enter Try.func32, Try.ntmps32
    go_wp2
    go_ret
    exact ⟨none, 0, rfl, Turns.with_nil (Turns.refl HS.out)⟩
end
theorem xtext_any (x : RdS) (w : World) (hs : x.xown.holds w) (hg : x.good) (most : Int) : Calls Try.prog 76 #[.pointer (some ⟨x.g, 0, none⟩), .int .i64 most] w fun q w' => q = .returned (.string ⟨(x.some most).1.toArray⟩) ∧ Turns w w' x.xown (x.some most).2.xown := by
  have HO := Lib.hid (xbytes_any x w hs hg most)
  clear hs
  generalize x.some most = G at *
  obtain ⟨l, x'⟩ := G
  simp only [] at HO ⊢
  obtain ⟨m, hm⟩ : ∃ m, l.length = m := ⟨_, rfl⟩
  have HM := Lib.hid hm
  rw [hm] at HO
  go_enter Try.func76, Try.ntmps76
  go_wp2_with (go_at_call 32; refine HO.out.mono ?_; rintro q w1 ⟨A, c, rfl, ht1⟩; have HT1 := Lib.hid ht1; have hcv := conv_src _ _ l (by rw [HM.out]; exact Src.of_own ht1.now.1); clear ht1)
  go_ret
  refine ⟨rfl, ⟨HT1.out.chg, HT1.out.now.2.1, fun b hb => HT1.out.near b (Or.inr hb)⟩⟩
theorem xnewR_any (A : Option Addr) (c n : Nat) (bs : List UInt8) (w : World) (hn : bs.length = n) (hx : Src w (.slice A n c) n 1 (bs.map bv)) (hl : n ≤ 140737488355328) :
    Calls Try.prog 26 #[.slice A n c] w fun q w' => ∃ g v, q = .returned (.pointer (some ⟨g, 0, none⟩)) ∧ Turns w w' Hp.Own.emp (RdS.mk g v bs 0 0).xown := by
  have HX := Lib.hid hx
  have HN := Lib.hid hn
  have HL := Lib.hid (Turns.row_lit w Hp.Own.emp #[] 5 1 0 (by simp [maxLen]) rfl)
  have HX2 : Hid (Src (w.alloc (.cells #[] 5)) (.slice A n c) n 1 (bs.map bv)) := Lib.hid (Src.keep hx ((Chg.refl (fun _ => False) w).alloc _))
  obtain ⟨i0, hi0, hz0, hz1, hz2⟩ := info_parts Try.info5
  clear hx hn
  go_enter Try.func26, Try.ntmps26
  go_wp2_with (at_builtin; refine wpList_appS _ rfl (.tmp 3) (.tmp 4) 38 rfl 5 i0 (.int .u8 0) 1 1 Try.underlying38 hi0 hz0 hz1 hz2 rfl (by decide) _ 0 [] rfl HL.out.now _ n (bs.map bv) rfl HX2.out (fun u hu => by obtain ⟨b, _, rfl⟩ := List.mem_map.mp hu; rfl) (by simp only [maxLen]; omega) (by omega) ?_; intro A5 c5 w5 ht5; have HT5 := Lib.hid ht5; clear ht5)
  go_ret
  refine ⟨_, rfl, .slice A5 n c5, ?_⟩
  have h5 : Turns w w5 Hp.Own.emp (Hp.Own.row 5 1 (.slice A5 n c5) n (bs.map bv)) := by
    have := HL.out.trans HT5.out
    simpa using this
  have h := h5.trans (Turns.newl h5.now #[.slice A5 n c5, .int .i64 0, .int .i64 0] 113)
  show Turns _ _ _ (Hp.Own.both (Hp.Own.blk _ #[_, _, _] 113) (Hp.Own.row 5 1 _ bs.length _))
  rw [HN.out]
  exact h
end Go.Proofs.Ytkpgdonpmfebaaa.Bt

/- The law's helper read: one step, by the program and by the document. -/
namespace Go.Proofs.Ytkpgdonpmfebaaa.Bt
open Go.RowKit Go.Hp
attribute [local go_sem] min2_lean min_two max2_lean max_two
set_option linter.unusedSimpArgs false
set_option linter.unusedVariables false
set_option maxRecDepth 100000
/-- A pair of readers, and that they are at the same place. -/
def rp (r x : RdS) : Hp.Own := Hp.Own.both r.own x.xown
def Tw (r x : RdS) : Prop := x.bs = r.bs ∧ x.at_ = r.at_ ∧ x.e = r.e
theorem Tw.num {r x : RdS} (h : Tw r x) (n : Int) : (x.num n).1 = (r.num n).1 ∧ Tw (r.num n).2 (x.num n).2 := by
  obtain ⟨g, v, bs, a, e⟩ := r; obtain ⟨g', v', bs', a', e'⟩ := x
  obtain ⟨rfl, rfl, rfl⟩ := h
  unfold RdS.num ItS.ended Tw
  split <;> (try split) <;> simp
theorem Tw.signed {r x : RdS} (h : Tw r x) : x.signed.1 = r.signed.1 ∧ Tw r.signed.2 x.signed.2 := by
  obtain ⟨g, v, bs, a, e⟩ := r; obtain ⟨g', v', bs', a', e'⟩ := x
  obtain ⟨rfl, rfl, rfl⟩ := h
  unfold RdS.signed ItS.ended Tw
  split <;> (try split) <;> simp
theorem Tw.bool {r x : RdS} (h : Tw r x) : x.bool.1 = r.bool.1 ∧ Tw r.bool.2 x.bool.2 := by
  obtain ⟨g, v, bs, a, e⟩ := r; obtain ⟨g', v', bs', a', e'⟩ := x
  obtain ⟨rfl, rfl, rfl⟩ := h
  unfold RdS.bool ItS.ended Tw
  split <;> (try split) <;> simp
theorem Tw.some {r x : RdS} (h : Tw r x) (n : Int) : (x.some n).1 = (r.some n).1 ∧ Tw (r.some n).2 (x.some n).2 := by
  obtain ⟨g, v, bs, a, e⟩ := r; obtain ⟨g', v', bs', a', e'⟩ := x
  obtain ⟨rfl, rfl, rfl⟩ := h
  unfold RdS.some ItS.ended Tw
  split <;> (try split) <;> simp
def RdS.fail (r : RdS) (c : Int) : RdS := if r.e = 0 then { r with e := c } else r
theorem Tw.fail {r x : RdS} (h : Tw r x) (n : Int) : Tw (r.fail n) (x.fail n) := by
  obtain ⟨g, v, bs, a, e⟩ := r; obtain ⟨g', v', bs', a', e'⟩ := x
  obtain ⟨rfl, rfl, rfl⟩ := h
  unfold RdS.fail Tw
  split <;> (try split) <;> simp_all
theorem Tw.closed {r x : RdS} (h : Tw r x) : Tw r.closed x.closed := by
  obtain ⟨g, v, bs, a, e⟩ := r; obtain ⟨g', v', bs', a', e'⟩ := x
  obtain ⟨rfl, rfl, rfl⟩ := h
  unfold RdS.closed Tw
  split <;> (try split) <;> simp_all
/-- What a step leaves of a reader. -/
def stp (r : RdS) (k n : Int) : RdS :=
  if k = 1 then (r.num n).2 else if k = 2 then r.signed.2 else if k = 3 then r.bool.2 else if k = 4 then (r.some n).2 else if k = 5 then (r.some n).2 else if k = 7 then r.fail n else if k = 9 then r.closed else r
theorem Tw.stp {r x : RdS} (h : Tw r x) (k n : Int) : Tw (stp r k n) (stp x k n) := by
  unfold Bt.stp
  split
  · exact (h.num n).2
  split
  · exact h.signed.2
  split
  · exact h.bool.2
  split
  · exact (h.some n).2
  split
  · exact (h.some n).2
  split
  · exact h.fail n
  split
  · exact h.closed
  · exact h
/-- A reader's bytes stay, and its place is one of them. -/
def Ke (r r' : RdS) : Prop := r'.g = r.g ∧ r'.bs = r.bs ∧ r'.at_ ≤ r'.bs.length
theorem ended_ke (r : RdS) (a : Nat) (e : Int) (h : r.at_ ≤ r.bs.length) (ha : a ≤ r.bs.length) : Ke r (ItS.mk 0 r a e).ended := by
  unfold ItS.ended Ke
  split
  · split
    · exact ⟨rfl, rfl, ha⟩
    · exact ⟨rfl, rfl, h⟩
  · exact ⟨rfl, rfl, h⟩
theorem someOf_place (most : Int) (bs : List UInt8) (a : Nat) (ha : a ≤ bs.length) : (someOf most bs a).2.1 ≤ bs.length := by
  have h := numOf_bounds most 14 bs a ha (by decide)
  unfold someOf
  simp only []
  split
  · split
    · exact h.2.2.2.1
    · simp only []; omega
  · exact h.2.2.2.1
theorem boolOf_place (bs : List UInt8) (a : Nat) (ha : a ≤ bs.length) : (boolOf bs a).2.1 ≤ bs.length := by
  unfold boolOf
  split
  · split <;> (simp only []; omega)
  · exact ha
theorem stp_ke (r : RdS) (k n : Int) (h : r.at_ ≤ r.bs.length) : Ke r (stp r k n) := by
  have h0 : Ke r r := ⟨rfl, rfl, h⟩
  have h1 := numOf_bounds n 13 r.bs r.at_ h (by decide)
  have h2 := gr_place 10 1 r.bs 10 0 0 r.at_ h
  unfold stp
  split
  · unfold RdS.num; split
    · exact ended_ke _ _ _ h h1.2.2.2.1
    · exact h0
  split
  · unfold RdS.signed; split
    · exact ended_ke _ _ _ h h2.2
    · exact h0
  split
  · unfold RdS.bool; split
    · exact ended_ke _ _ _ h (boolOf_place _ _ h)
    · exact h0
  split
  · unfold RdS.some; split
    · exact ended_ke _ _ _ h (someOf_place _ _ _ h)
    · exact h0
  split
  · unfold RdS.some; split
    · exact ended_ke _ _ _ h (someOf_place _ _ _ h)
    · exact h0
  split
  · unfold RdS.fail; split
    · exact ⟨rfl, rfl, h⟩
    · exact h0
  split
  · unfold RdS.closed; split
    · split
      · exact ⟨rfl, rfl, h⟩
      · exact h0
    · exact h0
  · exact h0
end Go.Proofs.Ytkpgdonpmfebaaa.Bt

/- Package shelf: a result read. -/
namespace Go.Proofs.Ytkpgdonpmfebaaa.Rl
open Go.Proofs.Ytkpgdonpmfebaaa.Bt
open Go.RowKit Go.Hp
attribute [local go_sem] min2_lean min_two max2_lean max_two
set_option linter.unusedSimpArgs false
set_option linter.unusedVariables false
set_option maxRecDepth 100000
/-- A reader at g that may go on. -/
def At (g : Nat) (r : RdS) : Prop := r.g = g ∧ r.at_ ≤ r.bs.length ∧ r.bs.length ≤ 140737488355328
theorem At.ke {g : Nat} {r r' : RdS} (h : At g r) (k : Ke r r') : At g r' := ⟨k.1.trans h.1, k.2.2, by rw [k.2.1]; exact h.2.2⟩
theorem At.num {g : Nat} {r : RdS} (h : At g r) (n : Int) : At g (r.num n).2 := h.ke (stp_ke r 1 n h.2.1)
theorem At.some {g : Nat} {r : RdS} (h : At g r) (n : Int) : At g (r.some n).2 := h.ke (stp_ke r 4 n h.2.1)
theorem At.closed {g : Nat} {r : RdS} (h : At g r) : At g r.closed := h.ke (stp_ke r 9 0 h.2.1)
def RdS.rk (r : RdS) : Nat → RdS
  | 0 => r
  | k + 1 => ((RdS.rk r k).some 64).2
theorem At.rk {g : Nat} {r : RdS} (h : At g r) : ∀ k, At g (RdS.rk r k)
  | 0 => h
  | k + 1 => (At.rk h k).some 64
def RdS.ik (r : RdS) (k : Nat) : List ByteArray := (List.range k).map fun j => ⟨((RdS.rk r j).some 64).1.toArray⟩
theorem ik_succ (r : RdS) (k : Nat) : RdS.ik r (k + 1) = RdS.ik r k ++ [⟨((RdS.rk r k).some 64).1.toArray⟩] := by unfold RdS.ik; rw [List.range_succ, List.map_append]; rfl
theorem ik_len (r : RdS) (k : Nat) : (RdS.ik r k).length = k := by simp [RdS.ik]
structure RsA where
  code : Int
  n : Int
  its : List ByteArray
def RsA.zero : RsA := ⟨0, 0, []⟩
/-- What GetResult gives. -/
def RdS.res (r : RdS) : RsA × RdS :=
  if (r.num 4).2.e = 0 then
    if (r.num 4).1 = 0 then
      if (RdS.rk (((r.num 4).2.num 1099511627776).2.num 8).2 (((r.num 4).2.num 1099511627776).2.num 8).1.toNat).e = 0 then
        (⟨0, ((r.num 4).2.num 1099511627776).1, RdS.ik (((r.num 4).2.num 1099511627776).2.num 8).2 (((r.num 4).2.num 1099511627776).2.num 8).1.toNat⟩, RdS.rk (((r.num 4).2.num 1099511627776).2.num 8).2 (((r.num 4).2.num 1099511627776).2.num 8).1.toNat)
      else (RsA.zero, RdS.rk (((r.num 4).2.num 1099511627776).2.num 8).2 (((r.num 4).2.num 1099511627776).2.num 8).1.toNat)
    else (⟨(r.num 4).1, 0, []⟩, (r.num 4).2)
  else (RsA.zero, (r.num 4).2)
theorem num_range (r : RdS) (most : Int) (h0 : 0 ≤ most) (ha : r.at_ ≤ r.bs.length) : 0 ≤ (r.num most).1 ∧ (r.num most).1 ≤ most := by
  unfold RdS.num
  split
  · refine ⟨(numOf_bounds most 13 r.bs r.at_ ha (by decide)).1, ?_⟩
    unfold numOf
    simp only []
    split
    · split
      · exact h0
      · simp only []; omega
    · exact h0
  · exact ⟨Int.le_refl _, h0⟩
theorem At.res {g : Nat} {r : RdS} (h : At g r) : At g (RdS.res r).2 := by
  unfold RdS.res
  split
  · split
    · split <;> exact At.rk (((h.num _).num _).num _) _
    · exact h.num _
  · exact h.num _
section
variable (g : Nat) (r : RdS) (w : World) (hs : r.own.holds w) (hg : At g r)
include hs hg
theorem g_num (most : Int) : Calls Try.prog 38 #[.pointer (some ⟨g, 0, none⟩), .int .i64 most] w fun q w' => q = .returned (.int .i64 (r.num most).1) ∧ Turns w w' r.own (r.num most).2.own := by
  have := rnum_all r w hs hg.2 most
  rwa [hg.1] at this
theorem g_text (most : Int) : Calls Try.prog 75 #[.pointer (some ⟨g, 0, none⟩), .int .i64 most] w fun q w' => q = .returned (.string ⟨(r.some most).1.toArray⟩) ∧ Turns w w' r.own (r.some most).2.own := by
  have := rtext_all r w hs hg.2 most
  rwa [hg.1] at this
theorem g_err : Calls Try.prog 29 #[.pointer (some ⟨g, 0, none⟩)] w fun q w' => q = .returned (.tuple #[.int .i64 r.e, .int .i64 r.at_]) ∧ ∃ n, w.drewN n = w' := by
  have := err_any r w hs
  rwa [hg.1] at this
theorem g_close : Calls Try.prog 35 #[.pointer (some ⟨g, 0, none⟩)] w fun q w' => q = .returned (.int .i64 r.closed.e) ∧ Turns w w' r.own r.closed.own := by
  have := close_any r w hs
  rwa [hg.1] at this
end
def rs_ (v : Value) (xs : List ByteArray) (r : RdS) : Hp.Own := Hp.Own.both (irow v xs) r.own
def resP (r : RdS) (w : World) (e : Ending) (w' : World) : Prop := ∃ A c, e = .returned (.agg #[.int .i64 (RdS.res r).1.code, .int .i64 (RdS.res r).1.n, .slice A (RdS.res r).1.its.length c]) ∧ Turns w w' r.own (rs_ (.slice A (RdS.res r).1.its.length c) (RdS.res r).1.its (RdS.res r).2)
theorem res_any (g : Nat) (r : RdS) (w : World) (hs : r.own.holds w) (hg : At g r) : Calls Try.prog 103 #[.pointer (some ⟨g, 0, none⟩)] w (resP r w) := by
  have HT0 := Lib.hid ((Turns.refl hs).push #[.int .i64 0, .int .i64 0, .slice none 0 0] 73)
  have HN := Lib.hid (fun W h => g_num g r W h hg 4)
  have hb := num_range r 4 (by decide) hg.2.1
  have hg1 := hg.num 4
  clear hs
  by_cases h1 : (r.num 4).2.e = 0
  · by_cases h2 : (r.num 4).1 = 0
    · have hg2 := hg1.num 1099511627776
      have hg3 := hg2.num 8
      have hb2 := num_range (r.num 4).2 1099511627776 (by decide) hg1.2.1
      have hb3 := num_range ((r.num 4).2.num 1099511627776).2 8 (by decide) hg2.2.1
      have HR := Lib.hid (show RdS.res r = _ from by rw [RdS.res, if_pos h1, if_pos h2])
      obtain ⟨⟨c, r1⟩, hG⟩ : ∃ G, r.num 4 = G := ⟨_, rfl⟩
      rw [hG] at HN HR hb hg1 h1 h2 hg2 hg3 hb2 hb3
      clear hG
      simp only [] at HN HR hb hg1 h1 h2 hg2 hg3 hb2 hb3
      subst h2
      have HE := Lib.hid (fun W h => g_err g r1 W h hg1)
      rw [h1] at HE
      have HN2 := Lib.hid (fun W h => g_num g r1 W h hg1 1099511627776)
      obtain ⟨⟨n, r2⟩, hG⟩ : ∃ G, r1.num 1099511627776 = G := ⟨_, rfl⟩
      rw [hG] at HN2 HR hg2 hg3 hb2 hb3
      clear hG
      simp only [] at HN2 HR hg2 hg3 hb2 hb3
      have HN3 := Lib.hid (fun W h => g_num g r2 W h hg2 8)
      obtain ⟨⟨m', r3⟩, hG⟩ : ∃ G, r2.num 8 = G := ⟨_, rfl⟩
      rw [hG] at HN3 HR hg3 hb3
      clear hG
      simp only [] at HN3 HR hg3 hb3
      obtain ⟨m, rfl⟩ : ∃ m : Nat, m' = m := ⟨m'.toNat, by omega⟩
      rw [Int.toNat_natCast] at HR
      have hm8 : m ≤ 8 := by omega
      have HTX := Lib.hid (fun k W h => g_text g (RdS.rk r3 k) W h (hg3.rk k) 64)
      have HES := Lib.hid (fun W h => g_err g (RdS.rk r3 m) W h (hg3.rk m))
      have HIS := Lib.hid (fun k => ik_succ r3 k)
      have HIL := Lib.hid (ik_len r3 m)
      obtain ⟨is, his, hzas, hzbs, hzcs⟩ := info_parts Try.info9
      clear h1 hb hb2 hb3 hg hg1 hg2 hg3
      go_enter Try.func103, Try.ntmps103
      go_wp2_with (first
        | (go_at_call 38; (with_reducible refine (HN.out _ HT0.out.n1).mono ?_); rintro e w1 ⟨rfl, ht1⟩; have HT1 := Lib.hid ((HT0.out.at1 ht1).push #[.int .i64 0, .int .i64 0, .slice none 0 0] 73); clear ht1; obtain ⟨q0, q1, q2, g0, g1, g2, hq⟩ := Blk.three HT1.out.b0)
        | (go_at_call 29; (with_reducible refine (HE.out _ HT1.out.n11).mono ?_); rintro e w2 ⟨rfl, n2, rfl⟩)
        | (go_at_call 38; (with_reducible refine (HN2.out _ (HT1.out.drewN n2).n11).mono ?_); rintro e w3 ⟨rfl, ht3⟩; have HT3 := Lib.hid (((HT1.out.drewN n2).at2 ht3).put0 1 (.int .i64 n)); have HX3 := Lib.hid (((HT1.out.drewN n2).at2 ht3).b0); clear ht3 q0 q1 q2 g0 g1 g2 hq; obtain ⟨q0, q1, q2, g0, g1, g2, hq⟩ := Blk.three HX3.out)
        | (go_at_call 38; (with_reducible refine (HN3.out _ HT3.out.n11).mono ?_); rintro e w4 ⟨rfl, ht4⟩; have HT4 := Lib.hid (HT3.out.at2 ht4); clear ht4 q0 q1 q2 g0 g1 g2 hq))
      have HT5 := Lib.hid (HT4.out.at2 ((Turns.refl HT4.out.n11).pushNil 9 1))
      generalize w1.heap.size = b1 at *
      clear HT4 HX3 HT3 HT1 HE HN HN2 HN3
      go_loopw [28] (fun x28 wr => ∃ (i : Nat) (A : Option Addr) (c : Nat), x28 = .int .i64 i ∧ i ≤ m ∧ Turns w wr r.own (Hp.Own.both (Hp.Own.blk b1 #[.int .i64 0, .int .i64 n, .slice A i c] 73) (Hp.Own.both (Hp.Own.blk w.heap.size #[.int .i64 0, .int .i64 0, .slice none 0 0] 73) (Hp.Own.both (Hp.Own.row 9 1 (.slice A i c) i ((RdS.ik r3 i).map Value.string)) (RdS.rk r3 i).own)))) (fun x28 _ => m - (intOf x28).toNat)
      case atStart => exact ⟨0, none, 0, rfl, Nat.zero_le _, HT5.out⟩
      case round =>
        clear HT5
        obtain ⟨i, A, c, rfl, hi, ht⟩ := hrel
        have HT := Lib.hid ht
        have HD := Lib.hid ht.drew
        obtain ⟨q0, q1, q2, g0, g1, g2, hq⟩ := Blk.three HT.out.b0
        clear ht
        by_cases hlt : i < m
        · have hd : decide ((i : Int) < (m : Int)) = true := by simp; omega
          have hd' : decide (i < m) = true := by simpa using hlt
          go_wp2_with fail
          go_region_law (first
            | (go_simp; go_at_call 75; (with_reducible refine (HTX.out i _ HD.out.n111).mono ?_); rintro e w6 ⟨rfl, ht6⟩; have HT6 := Lib.hid (HD.out.at3 ht6); clear ht6; obtain ⟨p0, p1, p2, k0, k1, k2, hp⟩ := Blk.three HT6.out.b0)
            | ((refine step_app1 _ rfl (.tmp 31) (.tmp 34) 71 rfl 9 is (.string ByteArray.empty) 16 Try.underlying71 his hzas hzbs hzcs rfl (.slice A i c) i ((RdS.ik r3 i).map Value.string) rfl _ _ _ rfl (by first | rfl | simp) HT6.out.n110 (by simp [Value.oneCell']) (by simp only [maxLen]; omega) (by omega) ?_; intro g7 c7 w7 hc7 ht7; have HT7 := Lib.hid ht7; clear ht7); have HT8 := Lib.hid (HT6.out.at20 HT7.out); clear p0 p1 p2 k0 k1 k2 hp; obtain ⟨p0, p1, p2, k0, k1, k2, hp⟩ := Blk.three HT8.out.b0))
          all_goals
            go_wp2_with fail
            go_roundw
            case rel =>
              refine ⟨i + 1, some ⟨g7, 0, none⟩, c7, by simp, by omega, ?_⟩
              rw [HIS.out, List.map_append]
              exact HT8.out.put0 2 _
            case measure => simp [intOf]; omega
        · have hd : decide ((i : Int) < (m : Int)) = false := by simp; omega
          have hd' : decide (i < m) = false := by simpa using hlt
          obtain rfl : i = m := by omega
          obtain ⟨p0, p1, p2, k0, k1, k2, hp⟩ := Blk.three HT.out.b10
          by_cases he : (RdS.rk r3 i).e = 0
          · have e2 : ((RdS.rk r3 i).e != 0) = false := by simpa using he
            rw [if_pos he] at HR
            clear he
            go_wp2_with (go_at_call 29; (with_reducible refine (HES.out _ HT.out.n111).mono ?_); rintro e w9 ⟨rfl, n9, rfl⟩)
            refine bodyPost_ret (v := .agg #[.int .i64 0, .int .i64 n, .slice A i c]) (by simp [results, Try.results103, go_sem, *]) rfl ?_
            unfold resP
            rw [HR.out]
            simp only []
            rw [HIL.out]
            refine ⟨A, c, rfl, ?_⟩
            unfold rs_ irow
            rw [HIL.out]
            exact ((((HT.out.drewN _).put10 0 _).put10 1 _).put10 2 _).dropL.dropL
          · have e2 : ((RdS.rk r3 i).e != 0) = true := by simpa using he
            rw [if_neg he] at HR
            clear he
            go_wp2_with (go_at_call 29; (with_reducible refine (HES.out _ HT.out.n111).mono ?_); rintro e w9 ⟨rfl, n9, rfl⟩)
            refine bodyPost_ret (v := .agg #[.int .i64 0, .int .i64 0, .slice none 0 0]) (by simp [results, Try.results103, go_sem, *]) rfl ?_
            unfold resP
            rw [HR.out]
            exact ⟨none, 0, rfl, ((((HT.out.drewN _).put10 0 _).put10 1 _).put10 2 _).dropL.dropL.dropL.pushNil 9 1⟩
    · have HR : Hid (RdS.res r = (⟨(r.num 4).1, 0, []⟩, (r.num 4).2)) := Lib.hid (by unfold RdS.res; rw [if_pos h1, if_neg h2])
      obtain ⟨⟨c, r1⟩, hG⟩ : ∃ G, r.num 4 = G := ⟨_, rfl⟩
      rw [hG] at HN HR hb hg1 h1 h2
      clear hG
      simp only [] at HN HR hb hg1 h1 h2
      have HE := Lib.hid (fun W h => g_err g r1 W h hg1)
      rw [h1] at HE
      have e1 : (c == 0) = false := by simpa using h2
      clear h1 h2 hg hg1
      go_enter Try.func103, Try.ntmps103
      go_wp2_with (first
        | (go_at_call 38; (with_reducible refine (HN.out _ HT0.out.n1).mono ?_); rintro e w1 ⟨rfl, ht1⟩; have HT1 := Lib.hid ((HT0.out.at1 ht1).push #[.int .i64 c, .int .i64 0, .slice none 0 0] 73); clear ht1; obtain ⟨q0, q1, q2, -, -, -, hq⟩ := Blk.three HT1.out.b0; obtain ⟨p0, p1, p2, f0, f1, f2, hf⟩ := Blk.three HT1.out.b10)
        | (go_at_call 29; (with_reducible refine (HE.out _ HT1.out.n11).mono ?_); rintro e w2 ⟨rfl, n2, rfl⟩)
        | (go_at_call 29; (with_reducible refine (HE.out _ (HT1.out.drewN n2).n11).mono ?_); rintro e w3 ⟨rfl, n3, rfl⟩))
      refine bodyPost_ret (v := .agg #[.int .i64 c, .int .i64 0, .slice none 0 0]) (by simp [results, Try.results103, go_sem, *]) rfl ?_
      unfold resP
      rw [HR.out]
      exact ⟨none, 0, rfl, ((((HT1.out.drewN _).put10 0 _).put10 1 _).put10 2 _).dropL.dropL.pushNil 9 1⟩
  · have HR : Hid (RdS.res r = (RsA.zero, (r.num 4).2)) := Lib.hid (by unfold RdS.res; rw [if_neg h1])
    obtain ⟨⟨c, r1⟩, hG⟩ : ∃ G, r.num 4 = G := ⟨_, rfl⟩
    rw [hG] at HN HR hb hg1 h1
    clear hG
    simp only [] at HN HR hb hg1 h1
    have HE := Lib.hid (fun W h => g_err g r1 W h hg1)
    have e1 : (r1.e == 0) = false := by simpa using h1
    have e2 : (r1.e != 0) = true := by simpa using h1
    clear h1 hg hg1
    go_enter Try.func103, Try.ntmps103
    go_wp2_with (first
      | (go_at_call 38; (with_reducible refine (HN.out _ HT0.out.n1).mono ?_); rintro e w1 ⟨rfl, ht1⟩; have HT1 := Lib.hid ((HT0.out.at1 ht1).push #[.int .i64 c, .int .i64 0, .slice none 0 0] 73); clear ht1; obtain ⟨q0, q1, q2, -, -, -, hq⟩ := Blk.three HT1.out.b0; obtain ⟨p0, p1, p2, f0, f1, f2, hf⟩ := Blk.three HT1.out.b10)
      | (go_at_call 29; (with_reducible refine (HE.out _ HT1.out.n11).mono ?_); rintro e w2 ⟨rfl, n2, rfl⟩)
      | (go_at_call 29; (with_reducible refine (HE.out _ (HT1.out.drewN n2).n11).mono ?_); rintro e w3 ⟨rfl, n3, rfl⟩))
    refine bodyPost_ret (v := .agg #[.int .i64 0, .int .i64 0, .slice none 0 0]) (by simp [results, Try.results103, go_sem, *]) rfl ?_
    unfold resP
    rw [HR.out]
    exact ⟨none, 0, rfl, ((((HT1.out.drewN _).put10 0 _).put10 1 _).put10 2 _).dropL.dropL.pushNil 9 1⟩
end Go.Proofs.Ytkpgdonpmfebaaa.Rl

/- Package roll: a row read. -/
namespace Go.Proofs.Ytkpgdonpmfebaaa.Rl
open Go.Proofs.Ytkpgdonpmfebaaa.Bt
open Go.RowKit Go.Hp
attribute [local go_sem] min2_lean min_two max2_lean max_two
set_option linter.unusedSimpArgs false
set_option linter.unusedVariables false
set_option maxRecDepth 100000
theorem Tw.rk {r x : RdS} (h : Tw r x) : ∀ k, Tw (RdS.rk r k) (RdS.rk x k)
  | 0 => h
  | k + 1 => ((Tw.rk h k).some 64).2
theorem Tw.ik {r x : RdS} (h : Tw r x) (k : Nat) : RdS.ik x k = RdS.ik r k := by
  unfold RdS.ik
  exact List.map_congr_left fun j _ => by rw [((Tw.rk h j).some 64).1]
theorem Tw.res {r x : RdS} (h : Tw r x) : (RdS.res x).1 = (RdS.res r).1 ∧ Tw (RdS.res r).2 (RdS.res x).2 := by
  obtain ⟨a1, t1⟩ := h.num 4
  obtain ⟨a2, t2⟩ := t1.num 1099511627776
  obtain ⟨a3, t3⟩ := t2.num 8
  have t4 := Tw.rk t3 (((r.num 4).2.num 1099511627776).2.num 8).1.toNat
  have t5 := Tw.ik t3 (((r.num 4).2.num 1099511627776).2.num 8).1.toNat
  unfold RdS.res
  rw [a1, a2, a3, t1.2.2, t4.2.2, t5]
  split
  · split
    · split <;> exact ⟨rfl, t4⟩
    · exact ⟨rfl, t1⟩
  · exact ⟨rfl, t1⟩
/-- A row of a reader's bytes, and whether it is one. -/
def RdS.rowOf (r : RdS) : RwA × Bool :=
  let a := r.num 1099511627776
  let b := a.2.num 1099511627776
  let x := RdS.res b.2
  let row : RwA := ⟨a.1, b.1, x.1.code, x.1.n, x.1.its⟩
  (row, decide (x.2.closed.e = 0) && may row)
theorem Tw.rowOf {r x : RdS} (h : Tw r x) : RdS.rowOf x = RdS.rowOf r := by
  obtain ⟨a1, t1⟩ := h.num 1099511627776
  obtain ⟨a2, t2⟩ := t1.num 1099511627776
  obtain ⟨a3, t3⟩ := Tw.res t2
  unfold RdS.rowOf
  simp only []
  rw [a1, a2, a3, t3.closed.2.2]
/-- A fresh reader of bytes. -/
def rd0 (bs : List UInt8) : RdS := ⟨0, .slice none 0 0, bs, 0, 0⟩
theorem g_res (g : Nat) (r : RdS) (w : World) (hs : r.own.holds w) (hg : At g r) : Calls Try.prog 103 #[.pointer (some ⟨g, 0, none⟩)] w (resP r w) := res_any g r w hs hg
theorem readR_any (A : Option Addr) (n c : Nat) (bs : List UInt8) (w : World) (hn : bs.length = n) (hx : Src w (.slice A n c) n 1 (bs.map bv)) (hl : n ≤ 140737488355328) :
    Calls Try.prog 25 #[.slice A n c] w fun q w' => ∃ g r, q = .returned (.pointer (some ⟨g, 0, none⟩)) ∧ At g r ∧ Tw (rd0 bs) r ∧ Turns w w' Hp.Own.emp r.own := by
  subst hn
  refine (newR_any A c bs w hx hl).mono fun q w' ⟨g, hq, ht⟩ => ⟨g, RdS.mk g (.slice (some ⟨w.heap.size, 0, none⟩) bs.length bs.length) bs 0 0, hq, ⟨rfl, Nat.zero_le _, hl⟩, ⟨rfl, rfl, rfl⟩, ht⟩
def readP (bs : List UInt8) (w : World) (e : Ending) (w' : World) : Prop := ∃ A c, e = .returned (.tuple #[.agg ((RdS.rowOf (rd0 bs)).1.cells (.slice A (RdS.rowOf (rd0 bs)).1.its.length c)), .bool (RdS.rowOf (rd0 bs)).2]) ∧ Turns w w' Hp.Own.emp (irow (.slice A (RdS.rowOf (rd0 bs)).1.its.length c) (RdS.rowOf (rd0 bs)).1.its)
theorem read_aux (g : Nat) (r : RdS) (hg : At g r) :
    ∃ (num at_ code n : Int) (its : List ByteArray) (r1 r2 r3 : RdS) (e : Int), (∀ W, r.own.holds W → Calls Try.prog 38 #[.pointer (some ⟨g, 0, none⟩), .int .i64 1099511627776] W fun q w' => q = .returned (.int .i64 num) ∧ Turns W w' r.own r1.own) ∧
      (∀ W, r1.own.holds W → Calls Try.prog 38 #[.pointer (some ⟨g, 0, none⟩), .int .i64 1099511627776] W fun q w' => q = .returned (.int .i64 at_) ∧ Turns W w' r1.own r2.own) ∧
      (∀ W, r2.own.holds W → Calls Try.prog 103 #[.pointer (some ⟨g, 0, none⟩)] W fun q w' => ∃ A c, q = .returned (.agg #[.int .i64 code, .int .i64 n, .slice A its.length c]) ∧ Turns W w' r2.own (rs_ (.slice A its.length c) its r3)) ∧
      (∀ W, r3.own.holds W → Calls Try.prog 35 #[.pointer (some ⟨g, 0, none⟩)] W fun q w' => q = .returned (.int .i64 e) ∧ Turns W w' r3.own r3.closed.own) ∧
      RdS.rowOf r = (⟨num, at_, code, n, its⟩, decide (e = 0) && may ⟨num, at_, code, n, its⟩) := by
  refine ⟨_, _, _, _, _, _, _, _, _, fun W h => g_num g r W h hg _, fun W h => g_num g _ W h (hg.num _) _, fun W h => g_res g _ W h ((hg.num _).num _), fun W h => g_close g _ W h (At.res ((hg.num _).num _)), rfl⟩
theorem read_any (A : Option Addr) (n c : Nat) (bs : List UInt8) (w : World) (hn : bs.length = n) (hx : Src w (.slice A n c) n 1 (bs.map bv)) (hl : n ≤ 140737488355328) :
    Calls Try.prog 88 #[.slice A n c] w (readP bs w) := by
  have HNR := Lib.hid (fun W (hc : Chg (fun _ => False) w W) => readR_any A n c bs W hn (Src.keep0 hx hc) hl)
  have HT0 := Lib.hid (Turns.blk_new w #[.int .i64 0, .int .i64 0, .int .i64 0, .int .i64 0, .slice none 0 0] 75)
  have HC0 := Lib.hid ((Chg.refl (fun _ => False) w).alloc (.cells #[.int .i64 0, .int .i64 0, .int .i64 0, .int .i64 0, .slice none 0 0] 75))
  clear hx hn
  go_enter Try.func88, Try.ntmps88
  go_wp2_with (go_at_call 25; (with_reducible refine (HNR.out _ HC0.out).mono ?_); rintro e w1 ⟨g, r, rfl, hg, htw, ht1⟩; have HG := Lib.hid hg; have HTW := Lib.hid htw; have HT1 := Lib.hid ((HT0.out.pushT ht1).swap.push #[.int .i64 0, .int .i64 0, .int .i64 0, .int .i64 0, .slice none 0 0] 75); clear ht1 hg htw; obtain ⟨num, at_, code, k, xs, r1, r2, r3, e4, h1, h2, h3, h4, h5⟩ := read_aux g r HG.out; have H1 := Lib.hid h1; have H2 := Lib.hid h2; have H3 := Lib.hid h3; have H4 := Lib.hid h4; have H5 := Lib.hid h5; clear h1 h2 h3 h4 h5)
  have HRW : Hid (RdS.rowOf (rd0 bs) = (⟨num, at_, code, k, xs⟩, decide (e4 = 0) && may ⟨num, at_, code, k, xs⟩)) := Lib.hid ((Tw.rowOf HTW.out).symm.trans H5.out)
  generalize w1.heap.size = b5 at *
  go_wp2_with (first
    | (go_at_call 38; (with_reducible refine (H1.out _ HT1.out.n11).mono ?_); rintro e w2 ⟨rfl, ht2⟩; have HX2 := Lib.hid (HT1.out.at2 ht2); clear ht2; obtain ⟨⟨q0, q1, q2, q3, q4⟩, f0, f1, f2, f3, f4, hq⟩ := Blk.five HX2.out.b0; have HT2 := Lib.hid (HX2.out.put0 0 (.int .i64 num)))
    | (go_at_call 38; (with_reducible refine (H2.out _ HT2.out.n11).mono ?_); rintro e w3 ⟨rfl, ht3⟩; have HX3 := Lib.hid (HT2.out.at2 ht3); clear ht3; clear q0 q1 q2 q3 q4 f0 f1 f2 f3 f4 hq; obtain ⟨⟨q0, q1, q2, q3, q4⟩, f0, f1, f2, f3, f4, hq⟩ := Blk.five HX3.out.b0; have HT3 := Lib.hid (HX3.out.put0 1 (.int .i64 at_)))
    | (go_at_call 103; (with_reducible refine (H3.out _ HT3.out.n11).mono ?_); rintro e w4 ⟨A4, c4, rfl, ht4⟩; have HX4 := Lib.hid (HT3.out.at2 ht4); clear ht4; clear q0 q1 q2 q3 q4 f0 f1 f2 f3 f4 hq; obtain ⟨⟨q0, q1, q2, q3, q4⟩, f0, f1, f2, f3, f4, hq⟩ := Blk.five HX4.out.b0; have HT4 := Lib.hid (((HX4.out.put0 2 (.int .i64 code)).put0 3 (.int .i64 k)).put0 4 (.slice A4 xs.length c4))))
  have HT5 := Lib.hid (show Turns w (((w4.setCell ⟨b5, 2, none⟩ (.int .i64 code)).setCell ⟨b5, 3, none⟩ (.int .i64 k)).setCell ⟨b5, 4, none⟩ (.slice A4 xs.length c4)) Hp.Own.emp (Hp.Own.both (Hp.Own.blk b5 #[.int .i64 num, .int .i64 at_, .int .i64 code, .int .i64 k, .slice A4 xs.length c4] 75) (Hp.Own.both (Hp.Own.blk w.heap.size #[.int .i64 0, .int .i64 0, .int .i64 0, .int .i64 0, .slice none 0 0] 75) (rs_ (.slice A4 xs.length c4) xs r3))) from HT4.out)
  obtain ⟨W5, hW5⟩ : ∃ W, W = (((w4.setCell ⟨b5, 2, none⟩ (.int .i64 code)).setCell ⟨b5, 3, none⟩ (.int .i64 k)).setCell ⟨b5, 4, none⟩ (.slice A4 xs.length c4)) := ⟨_, rfl⟩
  rw [← hW5] at HT5 ⊢
  clear hW5 q0 q1 q2 q3 q4 f0 f1 f2 f3 f4 hq HT4 HX4 HT3 HX3 HT2 HX2 HT1 H1 H2 H3 H5 HNR
  have HD5 := Lib.hid HT5.out.drew
  obtain ⟨⟨q0, q1, q2, q3, q4⟩, f0, f1, f2, f3, f4, hq⟩ := Blk.five HT5.out.b0
  obtain ⟨⟨p0, p1, p2, p3, p4⟩, k0, k1, k2, k3, k4, hp⟩ := Blk.five HT5.out.b10
  by_cases he : e4 = 0
  · have HMY := Lib.hid (fun W (h : (irow (.slice A4 xs.length c4) xs).holds W) => may_any ⟨num, at_, code, k, xs⟩ A4 xs.length c4 W (Src.of_own (show W.ownsRow 0 9 1 _ _ _ from h)))
    have HRW2 : Hid (RdS.rowOf (rd0 bs) = (⟨num, at_, code, k, xs⟩, may ⟨num, at_, code, k, xs⟩)) := Lib.hid (by rw [HRW.out, he]; rfl)
    obtain ⟨mb, hmb⟩ : ∃ b, may ⟨num, at_, code, k, xs⟩ = b := ⟨_, rfl⟩
    rw [hmb] at HRW2 HMY
    simp only [RwA.cells] at HMY
    subst he
    clear hmb HRW
    go_region_law (first
      | (go_simp; go_at_call 35; (with_reducible refine (H4.out _ ?_).mono ?_); (first | exact HD5.out.n111); rintro e w6 ⟨rfl, ht6⟩; have HT6 := Lib.hid (HD5.out.at3 ht6); clear ht6; obtain ⟨⟨x0, x1, x2, x3, x4⟩, -⟩ := Blk.five HT6.out.b0; obtain ⟨⟨y0, y1, y2, y3, y4⟩, z0, z1, z2, z3, z4, -⟩ := Blk.five HT6.out.b10)
      | (go_simp; go_at_call 86; (with_reducible refine (HMY.out _ ?_).mono ?_); (first | exact HT6.out.n110); rintro e w7 ⟨rfl, hc7⟩; have HT7 := Lib.hid (HT6.out.kept hc7); clear hc7 x0 x1 x2 x3 x4 y0 y1 y2 y3 y4 z0 z1 z2 z3 z4; obtain ⟨⟨x0, x1, x2, x3, x4⟩, -⟩ := Blk.five HT7.out.b0; obtain ⟨⟨y0, y1, y2, y3, y4⟩, z0, z1, z2, z3, z4, -⟩ := Blk.five HT7.out.b10))
    all_goals
      go_wp2_with fail
      refine bodyPost_ret (v := .tuple #[.agg #[.int .i64 num, .int .i64 at_, .int .i64 code, .int .i64 k, .slice A4 xs.length c4], .bool mb]) (by simp [results, Try.results88, go_sem, *]) rfl ?_
      unfold readP
      rw [HRW2.out]
      exact ⟨A4, c4, rfl, (((((HT7.out.put10 0 _).put10 1 _).put10 2 _).put10 3 _).put10 4 _).dropL.dropL.dropR⟩
  · have e1 : (e4 == 0) = false := by simpa using he
    have HRW2 : Hid (RdS.rowOf (rd0 bs) = (⟨num, at_, code, k, xs⟩, false)) := Lib.hid (by rw [HRW.out]; simp [he])
    clear HRW he
    go_region_law (first
      | (go_simp; go_at_call 35; (with_reducible refine (H4.out _ ?_).mono ?_); (first | exact HD5.out.n111); rintro e w6 ⟨rfl, ht6⟩; have HT6 := Lib.hid (HD5.out.at3 ht6); clear ht6; obtain ⟨⟨x0, x1, x2, x3, x4⟩, -⟩ := Blk.five HT6.out.b0; obtain ⟨⟨y0, y1, y2, y3, y4⟩, z0, z1, z2, z3, z4, -⟩ := Blk.five HT6.out.b10))
    all_goals
      go_wp2_with fail
      refine bodyPost_ret (v := .tuple #[.agg #[.int .i64 num, .int .i64 at_, .int .i64 code, .int .i64 k, .slice A4 xs.length c4], .bool false]) (by simp [results, Try.results88, go_sem, *]) rfl ?_
      unfold readP
      rw [HRW2.out]
      exact ⟨A4, c4, rfl, (((((HT6.out.put10 0 _).put10 1 _).put10 2 _).put10 3 _).put10 4 _).dropL.dropL.dropR⟩
end Go.Proofs.Ytkpgdonpmfebaaa.Rl

/- Package roll: Load. -/
namespace Go.Proofs.Ytkpgdonpmfebaaa.Rl
open Go.Proofs.Ytkpgdonpmfebaaa.Bt
open Go.RowKit Go.Hp
attribute [local go_sem] min2_lean min_two max2_lean max_two
set_option linter.unusedSimpArgs false
set_option linter.unusedVariables false
set_option maxRecDepth 100000
/-- A slice of slices of bytes. -/
def L2 (w : World) (v : Value) (l : List (List UInt8)) : Prop :=
  ∃ vs : List Value, Src w v l.length 1 vs ∧ ∀ j (h : j < l.length), ∃ A c, vs[j]? = some (.slice A l[j].length c) ∧ Src w (.slice A l[j].length c) l[j].length 1 (l[j].map bv) ∧ l[j].length ≤ 140737488355328
theorem L2.keep {w w' : World} {v : Value} {l : List (List UInt8)} (h : L2 w v l) (hc : Chg (fun _ => False) w w') : L2 w' v l := by
  obtain ⟨vs, h1, h2⟩ := h
  exact ⟨vs, Src.keep0 h1 hc, fun j hj => by obtain ⟨A, c, h3, h4, h5⟩ := h2 j hj; exact ⟨A, c, h3, Src.keep0 h4 hc, h5⟩⟩
theorem L2.at_ {w : World} {A : Option Addr} {n c : Nat} {l : List (List UInt8)} (h : L2 w (.slice A n c) l) {i : Nat} (hi : i < l.length) :
    ∃ ad B d, A = some ad ∧ w.cell? (ad.add i) = some (.slice B (l[i]'hi).length d) ∧ Src w (.slice B (l[i]'hi).length d) (l[i]'hi).length 1 ((l[i]'hi).map bv) ∧ (l[i]'hi).length ≤ 140737488355328 := by
  obtain ⟨vs, h1, h2⟩ := h
  obtain ⟨B, d, h3, h4, h5⟩ := h2 i hi
  rcases h1.2 with ⟨c', h, h0⟩ | ⟨ad, c', h, hc⟩
  · omega
  · injection h with h6
    exact ⟨ad, B, d, h6, hc i _ h3, h4, h5⟩
theorem L2.len {w : World} {A : Option Addr} {n c : Nat} {l : List (List UInt8)} (h : L2 w (.slice A n c) l) : l.length = n := by
  obtain ⟨vs, h1, h2⟩ := h
  obtain ⟨_, _, e⟩ := h1.len
  exact (Value.slice.inj e).2.1.symm
def ldB (l : List (List UInt8)) (k : Nat) : List UInt8 := l.getD k []
def ldOk (l : List (List UInt8)) (k : Nat) : Bool := (ldB l k).isEmpty || (RdS.rowOf (rd0 (ldB l k))).2
def ldIs (l : List (List UInt8)) (i k : Nat) : Bool := decide (k < i) && !(ldB l k).isEmpty
def ldRow (l : List (List UInt8)) (i k : Nat) : RwA := if ldIs l i k = true then (RdS.rowOf (rd0 (ldB l k))).1 else RwA.zero
/-- Lists that make a roll. -/
def ldAll (l : List (List UInt8)) : Bool := decide (l.length = 8) && (List.range 8).all (ldOk l)
def ldS (g : Nat) (l : List (List UInt8)) (i : Nat) (v : Nat → Value) : RlS := ⟨g, ldIs l i, ldRow l i, v⟩
theorem rowOf_may {r : RdS} (h : (RdS.rowOf r).2 = true) : may (RdS.rowOf r).1 = true := by
  unfold RdS.rowOf at h ⊢
  simp only [Bool.and_eq_true] at h
  exact h.2
theorem ldS_ok {g : Nat} {l : List (List UInt8)} {i : Nat} {v : Nat → Value} (h : ∀ k, k < i → ldOk l k = true) : (ldS g l i v).ok := by
  intro k hk
  show (ldIs l i k = true ∧ may (ldRow l i k) = true) ∨ (ldIs l i k = false ∧ ldRow l i k = RwA.zero)
  unfold ldRow
  by_cases e : ldIs l i k = true
  · left
    rw [if_pos e]
    refine ⟨e, rowOf_may ?_⟩
    unfold ldIs at e
    simp only [Bool.and_eq_true, decide_eq_true_eq] at e
    have h1 := h k e.1
    unfold ldOk at h1
    have h2 : (ldB l k).isEmpty = false := by simpa using e.2
    rw [h2] at h1
    simpa using h1
  · right
    rw [if_neg e]
    exact ⟨by simpa using e, rfl⟩
theorem ldS_skip {g : Nat} {l : List (List UInt8)} {i : Nat} {v : Nat → Value} (h : (ldB l i).isEmpty = true) : ldS g l (i + 1) v = ldS g l i v := by
  have e : ldIs l (i + 1) = ldIs l i := funext fun k => by
    unfold ldIs
    by_cases hk : k = i
    · subst hk; rw [h]; simp
    · have : decide (k < i + 1) = decide (k < i) := by rw [decide_eq_decide]; omega
      rw [this]
  unfold ldS
  have e2 : ldRow l (i + 1) = ldRow l i := funext fun k => by unfold ldRow; rw [e]
  rw [e, e2]
theorem ldS_put {g : Nat} {l : List (List UInt8)} {i : Nat} {v : Nat → Value} (u : Value) (h : (ldB l i).isEmpty = false) : (ldS g l i v).put i (RdS.rowOf (rd0 (ldB l i))).1 u = ldS g l (i + 1) (fun j => if j = i then u else v j) := by
  have e : ∀ k, k ≠ i → ldIs l (i + 1) k = ldIs l i k := fun k hk => by
    unfold ldIs
    have : decide (k < i + 1) = decide (k < i) := by rw [decide_eq_decide]; omega
    rw [this]
  have e0 : ldIs l (i + 1) i = true := by unfold ldIs; simp [h]
  unfold RlS.put ldS
  simp only [RlS.mk.injEq, true_and, and_true]
  refine ⟨funext fun k => ?_, funext fun k => ?_⟩
  · by_cases hk : k = i
    · subst hk; rw [if_pos rfl, e0]
    · rw [if_neg hk, e k hk]
  · by_cases hk : k = i
    · subst hk; rw [if_pos rfl]; unfold ldRow; rw [if_pos e0]
    · rw [if_neg hk]; unfold ldRow; rw [e k hk]
theorem ldS_zero (g : Nat) (l : List (List UInt8)) : ldS g l 0 (fun _ => .slice none 0 0) = RlS.new g := by
  unfold ldS RlS.new
  have e : ldIs l 0 = fun _ => false := funext fun k => by simp [ldIs]
  have e2 : ldRow l 0 = fun _ => RwA.zero := funext fun k => by unfold ldRow; rw [e]; rfl
  rw [e, e2]
def loadP (l : List (List UInt8)) (w : World) (e : Ending) (w' : World) : Prop :=
  if ldAll l = true then ∃ g v, e = .returned (.tuple #[.pointer (some ⟨g, 0, none⟩), .int .i64 0]) ∧ Turns w w' Hp.Own.emp (ldS g l 8 v).own
  else e = .returned (.tuple #[.pointer none, .int .i64 72]) ∧ Chg (fun _ => False) w w'
theorem load_any (A : Option Addr) (n c : Nat) (l : List (List UInt8)) (w : World) (hx : L2 w (.slice A n c) l) :
    Calls Try.prog 45 #[.slice A n c] w (loadP l w) := by
  have hn := hx.len
  by_cases h8 : n = 8
  · subst h8
    have HL := Lib.hid (fun W (hc : Chg (fun _ => False) w W) i (hi : i < l.length) => L2.at_ (hx.keep hc) hi)
    have HNW := Lib.hid (fun W => new_any W)
    have HRD := Lib.hid (fun B d bs m W (hm : bs.length = m) (hs : Src W (.slice B m d) m 1 (bs.map bv)) (hl : m ≤ 140737488355328) => read_any B m d bs W hm hs hl)
    have HN := Lib.hid hn
    clear hx hn
    go_enter Try.func45, Try.ntmps45
    go_wp2_with (go_at_call 39; (with_reducible refine (HNW.out _).mono ?_); rintro e w1 ⟨g, rfl, ht1⟩; have HT1 := Lib.hid ht1; clear ht1)
    go_loopw [15] (fun x15 wr => ∃ (i : Nat) (v : Nat → Value), x15 = .int .i64 i ∧ i ≤ 8 ∧ (∀ k, k < i → ldOk l k = true) ∧ Turns w wr Hp.Own.emp (ldS g l i v).own) (fun x15 _ => 8 - (intOf x15).toNat)
    case atStart => exact ⟨0, _, rfl, Nat.zero_le _, fun k hk => absurd hk (by omega), by rw [ldS_zero]; exact HT1.out⟩
    case round =>
      clear HT1
      obtain ⟨i, v, rfl, hi, hok, ht⟩ := hrel
      have HT := Lib.hid ht
      have HOK := Lib.hid hok
      clear ht hok
      by_cases hlt : i < 8
      · have hd : decide ((i : Int) < 8) = true := by simp; omega
        have hd' : decide (i < 8) = true := by simpa using hlt
        have hil : i < l.length := by rw [HN.out]; exact hlt
        obtain ⟨ad, B, d, rfl, hc, hsrc, hlen⟩ := HL.out _ (HT.out.chg.mono fun _ _ h => h) i hil
        have HSRC := Lib.hid (fun W (hc : Chg (fun _ => False) wr W) => Src.keep0 hsrc hc)
        clear hsrc
        have HLB : Hid (ldB l i = l[i]) := Lib.hid (by unfold ldB; rw [List.getD_eq_getElem?_getD, List.getElem?_eq_getElem hil]; rfl)
        obtain ⟨bs, hbs⟩ : ∃ bs, l[i] = bs := ⟨_, rfl⟩
        rw [hbs] at hc HSRC hlen HLB
        clear hbs
        obtain ⟨m, hm⟩ : ∃ m, bs.length = m := ⟨_, rfl⟩
        rw [hm] at hc HSRC hlen
        have HM := Lib.hid hm
        clear hm
        by_cases h0 : m = 0
        · subst h0
          have hE : (ldB l i).isEmpty = true := by rw [HLB.out]; have := HM.out; simpa using this
          have HE := Lib.hid hE
          clear hE
          go_wp2_with fail
          go_roundw
          case rel =>
            refine ⟨i + 1, v, by simp, by omega, fun k hk => ?_, by rw [ldS_skip HE.out]; exact HT.out⟩
            by_cases e : k = i
            · subst e; unfold ldOk; rw [HE.out]; rfl
            · exact HOK.out k (by omega)
          case measure => simp [intOf]; omega
        · have h9 : ((m : Int) == 0) = false := by simpa using h0
          have hE : (ldB l i).isEmpty = false := by
            rw [HLB.out]; have := HM.out
            cases bs with
            | nil => simp at this; omega
            | cons => rfl
          have HE := Lib.hid hE
          have HR := Lib.hid (fun W (hc : Chg (fun _ => False) wr W) => HRD.out B d bs m W HM.out (HSRC.out W hc) hlen)
          have HRB := Lib.hid (show ldOk l i = (RdS.rowOf (rd0 bs)).2 from by unfold ldOk; rw [HE.out, HLB.out]; rfl)
          have HRP : Hid (∀ u, (ldS g l i v).put i (RdS.rowOf (rd0 bs)).1 u = ldS g l (i + 1) (fun j => if j = i then u else v j)) := Lib.hid (fun u => by have := ldS_put (g := g) (v := v) u HE.out; rwa [HLB.out] at this)
          clear hE
          unfold readP at HR
          obtain ⟨⟨⟨num, at_, code, k, xs⟩, ok⟩, hG⟩ : ∃ G, RdS.rowOf (rd0 bs) = G := ⟨_, rfl⟩
          rw [hG] at HR HRB HRP
          clear hG
          simp only [RwA.cells] at HR HRB HRP
          by_cases hk : ok = true
          · subst hk
            have HR0 := Lib.hid (fun W (hc : Chg (fun _ => False) wr W) => HT.out.kept hc)
            obtain ⟨c0, c1, c2, c3, c4, c5⟩ := (ldS g l i v).at_ hlt
            have HC0 := Lib.hid c0
            have HC1 := Lib.hid c1
            have HC2 := Lib.hid c2
            have HC3 := Lib.hid c3
            have HC4 := Lib.hid c4
            have HC5 := Lib.hid c5
            clear c0 c1 c2 c3 c4 c5
            go_wp2_with (first
              | (go_at_call 88; (with_reducible refine (HR.out _ (Chg.refl _ _)).mono ?_); rintro e w2 ⟨A2, c2, rfl, ht2⟩; have HT2 := Lib.hid ht2; have HB2 := Lib.hid (Blk.new w2 #[.int .i64 num, .int .i64 at_, .int .i64 code, .int .i64 k, .slice A2 xs.length c2] 75); obtain ⟨⟨q0, q1, q2, q3, q4⟩, -⟩ := Blk.five HB2.out; clear ht2))
            have HT3 := Lib.hid (HT2.out.alloc (.cells #[.int .i64 num, .int .i64 at_, .int .i64 code, .int .i64 k, .slice A2 xs.length c2] 75))
            have hb3 := (show Blk wr g (ldS g l i v).cells 127 from HT.out.now.1).chg (HT3.out.chg.mono fun _ _ h => h) (fun h => h)
            have x0 := hb3.cell (i * 6); rw [HC0.out] at x0
            have x1 := hb3.cell (i * 6 + 1); rw [HC1.out] at x1
            have x2 := hb3.cell (i * 6 + 1 + 1); rw [HC2.out] at x2
            have x3 := hb3.cell (i * 6 + 1 + 2); rw [HC3.out] at x3
            have x4 := hb3.cell (i * 6 + 1 + 3); rw [HC4.out] at x4
            have x5 := hb3.cell (i * 6 + 1 + 4); rw [HC5.out] at x5
            have y0 := hb3.frozen (i * 6)
            have y1 := hb3.frozen (i * 6 + 1)
            have y2 := hb3.frozen (i * 6 + 1 + 1)
            have y3 := hb3.frozen (i * 6 + 1 + 2)
            have y4 := hb3.frozen (i * 6 + 1 + 3)
            have y5 := hb3.frozen (i * 6 + 1 + 4)
            have hgl := hb3.lt
            clear hb3
            obtain ⟨W3, hW3⟩ : ∃ W, W = w2.alloc (.cells #[.int .i64 num, .int .i64 at_, .int .i64 code, .int .i64 k, .slice A2 xs.length c2] 75) := ⟨_, rfl⟩
            rw [← hW3] at q0 q1 q2 q3 q4 x0 x1 x2 x3 x4 x5 y0 y1 y2 y3 y4 y5 hgl HT3 ⊢
            clear hW3
            have hji : (i : Int) < 8 := by omega
            go_region_law (fail)
            all_goals
              go_wp2_with fail
              go_roundw
              case rel =>
                refine ⟨i + 1, _, by simp, by omega, fun j hj => ?_, by rw [← HRP.out]; exact (HT.out.trans (set_turn (r := ⟨num, at_, code, k, xs⟩) HT.out.now HT3.out hlt)).drew⟩
                by_cases e : j = i
                · subst e; exact HRB.out
                · exact HOK.out j (by omega)
              case measure => simp [intOf]; omega
          · have hk : ok = false := by simpa using hk
            subst hk
            have HP : Hid (∀ e w', loadP l w e w' ↔ (e = .returned (.tuple #[.pointer none, .int .i64 72]) ∧ Chg (fun _ => False) w w')) := Lib.hid fun e w' => by
              unfold loadP
              have h5 : ldAll l = false := by
                unfold ldAll
                rw [Bool.and_eq_false_iff]; right
                rw [List.all_eq_false]
                exact ⟨i, List.mem_range.2 hlt, by rw [HRB.out]; simp⟩
              rw [h5]; simp
            go_wp2_with (first
              | (go_at_call 88; (with_reducible refine (HR.out _ (Chg.refl _ _)).mono ?_); rintro e w2 ⟨A2, c2, rfl, ht2⟩; have HT2 := Lib.hid ht2; clear ht2))
            go_ret2
            exact (HP.out _ _).2 ⟨rfl, ((HT.out.chg.mono fun _ _ h => h).trans (HT2.out.chg.mono fun _ _ h => h)).alloc _⟩
      · have hd : decide ((i : Int) < 8) = false := by simp; omega
        have hd' : decide (i < 8) = false := by simpa using hlt
        obtain rfl : i = 8 := by omega
        have HP : Hid (∀ e w', loadP l w e w' ↔ ∃ g v, e = .returned (.tuple #[.pointer (some ⟨g, 0, none⟩), .int .i64 0]) ∧ Turns w w' Hp.Own.emp (ldS g l 8 v).own) := Lib.hid fun e w' => by
          unfold loadP
          have h5 : ldAll l = true := by
            unfold ldAll
            rw [HN.out]
            simp only [Bool.and_eq_true, decide_eq_true_eq, true_and, List.all_eq_true, List.mem_range]
            exact HOK.out
          rw [if_pos h5]
        go_wp2_with fail
        go_ret2
        exact (HP.out _ _).2 ⟨g, v, rfl, HT.out⟩
  · have h9 : ((n : Int) != 8) = true := by simp; omega
    have hE : ldAll l = false := by unfold ldAll; rw [hn]; simp [h8]
    have HP := Lib.hid (show ∀ e w', loadP l w e w' ↔ (e = .returned (.tuple #[.pointer none, .int .i64 72]) ∧ Chg (fun _ => False) w w') from fun e w' => by unfold loadP; rw [hE]; simp)
    clear hx hn hE h8
    go_enter Try.func45, Try.ntmps45
    go_wp2_with fail
    go_ret2
    exact (HP.out _ _).2 ⟨rfl, Chg.refl _ _⟩
end Go.Proofs.Ytkpgdonpmfebaaa.Rl

/- Package roll: what was written is read back; how long it is. Plain. -/
namespace Go.Proofs.Ytkpgdonpmfebaaa.Rl
open Go.Proofs.Ytkpgdonpmfebaaa.Bt
open Go.RowKit Go.Hp
attribute [local go_sem] min2_lean min_two max2_lean max_two
set_option linter.unusedSimpArgs false
set_option linter.unusedVariables false
set_option maxRecDepth 100000
/-- A reader that is whole, and what is left for it. -/
def Lay (r : RdS) (rest : List UInt8) : Prop := r.e = 0 ∧ r.at_ ≤ r.bs.length ∧ r.bs.length ≤ 140737488355328 ∧ r.bs.drop r.at_ = rest
theorem Lay.on {r : RdS} {a rest : List UInt8} (h : Lay r (a ++ rest)) : Lay (r.on a.length) rest := by
  obtain ⟨h1, h2, h3, h4⟩ := h
  have h5 := congrArg List.length h4
  rw [List.length_drop, List.length_append] at h5
  refine ⟨h1, ?_, h3, ?_⟩
  · show r.at_ + a.length ≤ r.bs.length; omega
  · show r.bs.drop (r.at_ + a.length) = rest
    rw [← List.drop_drop, h4, List.drop_left]
theorem Lay.num {r : RdS} {n most : Int} {rest : List UInt8} (h : Lay r (eN n ++ rest)) (h0 : 0 ≤ n) (hm : n ≤ most) (hM : most ≤ 9223372036854775807) : r.num most = (n, r.on (eN n).length) ∧ Lay (r.on (eN n).length) rest :=
  ⟨back_num r h.1 rest n most false ⟨#[]⟩ h0 (by omega) hm h.2.2.2, h.on⟩
theorem Lay.text {r : RdS} {x : ByteArray} {rest : List UInt8} (h : Lay r (eT x ++ rest)) (hx : x.size ≤ 64) : r.some 64 = (x.data.toList, r.on (eT x).length) ∧ Lay (r.on (eT x).length) rest :=
  ⟨back_some r h.1 rest 4 0 64 false x (Or.inl rfl) ⟨h.2.1, h.2.2.1⟩ (by omega) (by omega) h.2.2.2, h.on⟩
theorem rk_shift (r : RdS) : ∀ k, RdS.rk r (k + 1) = RdS.rk (r.some 64).2 k
  | 0 => rfl
  | k + 1 => by
    show ((RdS.rk r (k + 1)).some 64).2 = ((RdS.rk (r.some 64).2 k).some 64).2
    rw [rk_shift r k]
theorem ik_shift (r : RdS) (k : Nat) : RdS.ik r (k + 1) = ⟨(r.some 64).1.toArray⟩ :: RdS.ik (r.some 64).2 k := by
  unfold RdS.ik
  rw [List.range_succ_eq_map, List.map_cons, List.map_map]
  congr 1
  exact List.map_congr_left fun j _ => by
    show (⟨((RdS.rk r (j + 1)).some 64).1.toArray⟩ : ByteArray) = _
    rw [rk_shift]
theorem Lay.items : ∀ (xs : List ByteArray) (r : RdS) (rest : List UInt8), Lay r ((xs.map eT).flatten ++ rest) → (∀ s ∈ xs, s.size ≤ 64) → Lay (RdS.rk r xs.length) rest ∧ RdS.ik r xs.length = xs
  | [], r, rest, h, _ => ⟨h, rfl⟩
  | x :: xs, r, rest, h, hs => by
    rw [List.map_cons, List.flatten_cons, List.append_assoc] at h
    obtain ⟨h1, h2⟩ := Lay.text h (hs x (List.mem_cons_self ..))
    obtain ⟨h3, h4⟩ := Lay.items xs _ rest h2 (fun s hs' => hs s (List.mem_cons_of_mem _ hs'))
    rw [List.length_cons, rk_shift, ik_shift, h1]
    exact ⟨h3, by rw [h4]⟩
theorem Lay.res {r : RdS} {code n : Int} {xs : List ByteArray} {rest : List UInt8} (h : Lay r (eR code n xs ++ rest)) (hc : chk code n xs = 0) : ∃ r', RdS.res r = (⟨code, n, xs⟩, r') ∧ Lay r' rest := by
  obtain ⟨k0, k1, k2, k3, k4, k5, k6⟩ := chk_zero hc
  unfold eR at h
  rw [List.append_assoc] at h
  obtain ⟨h1, h2⟩ := Lay.num (most := 4) h k0 k1 (by decide)
  unfold RdS.res
  rw [h1]
  simp only []
  rw [if_pos h2.1]
  by_cases e : code = 0
  · subst e
    rw [if_pos rfl, List.append_assoc, List.append_assoc] at h2
    rw [if_pos rfl]
    obtain ⟨h3, h4⟩ := Lay.num (most := 1099511627776) h2 k3 k4 (by decide)
    rw [h3]
    simp only []
    obtain ⟨h5, h6⟩ := Lay.num (most := 8) h4 (by omega) (by omega) (by decide)
    rw [h5]
    simp only [Int.toNat_natCast]
    obtain ⟨h7, h8⟩ := Lay.items xs _ rest h6 k6
    rw [if_pos h7.1, h8]
    exact ⟨_, rfl, h7⟩
  · rw [if_neg e, List.nil_append] at h2
    rw [if_neg e]
    obtain ⟨h3, h4⟩ := k2 e
    subst h3 h4
    exact ⟨_, rfl, h2⟩
theorem row_back (r : RdS) (x : RwA) (hm : may x = true) (h : Lay r (rowB x)) : RdS.rowOf r = (x, true) := by
  obtain ⟨m1, m2, m3, m4, hck⟩ := may_zero hm
  obtain ⟨num, at_, code, n, xs⟩ := x
  simp only [] at m1 m2 m3 m4 hck
  unfold rowB at h
  simp only [] at h
  rw [List.append_assoc, ← List.append_nil (eR code n xs)] at h
  obtain ⟨h1, h2⟩ := Lay.num (most := 1099511627776) h (by omega) m2 (by decide)
  obtain ⟨h3, h4⟩ := Lay.num (most := 1099511627776) h2 (by omega) m4 (by decide)
  obtain ⟨r', h5, h6⟩ := Lay.res h4 hck
  unfold RdS.rowOf
  simp only []
  rw [h1]
  simp only []
  rw [h3]
  simp only []
  rw [h5]
  simp only []
  rw [hm]
  have hcl : r'.closed.e = 0 := by
    unfold RdS.closed
    have h7 := congrArg List.length h6.2.2.2
    rw [List.length_drop, List.length_nil] at h7
    rw [if_neg (by omega)]
    exact h6.1
  rw [hcl]
  rfl
theorem eN_len6 {n : Int} (h0 : 0 ≤ n) (h1 : n ≤ 1099511627776) : (eN n).length ≤ 6 := by
  have e : (128 : Nat) ^ 6 = 4398046511104 := by decide
  exact vi_len 5 n.toNat (by omega)
theorem eT_len1 {x : ByteArray} (h : x.size ≤ 64) : (eT x).length ≤ 65 := by
  have h4 : x.data.toList.length = x.size := by rw [Array.length_toList]; rfl
  show (vi x.size ++ x.data.toList).length ≤ 65
  rw [vi_lt (show x.size < 128 by omega), List.length_append, h4]
  simp; omega
theorem eN_len1 {n : Int} (h0 : 0 ≤ n) (h1 : n < 128) : (eN n).length = 1 := by
  show (vi n.toNat).length = 1
  rw [vi_lt (by omega)]; rfl
theorem eN_pos (n : Int) : 1 ≤ (eN n).length := vi_pos n.toNat
theorem eR_few {code n : Int} {xs : List ByteArray} (h : chk code n xs = 0) : (eR code n xs).length ≤ 8 + 65 * xs.length := by
  obtain ⟨k0, k1, k2, k3, k4, k5, k6⟩ := chk_zero h
  have l0 : (eN code).length = 1 := eN_len1 k0 (by omega)
  have l1 : (eN n).length ≤ 6 := eN_len6 k3 k4
  have l2 : (eN (xs.length : Int)).length = 1 := eN_len1 (by omega) (by omega)
  have hf : ((xs.map eT).flatten).length ≤ 65 * xs.length := by
    clear h k2 k5 l2
    induction xs with
    | nil => simp
    | cons x r ih =>
      have h1 := ih (fun s hs => k6 s (List.mem_cons_of_mem _ hs))
      have h2 := eT_len1 (k6 x (List.mem_cons_self ..))
      simp only [List.map_cons, List.flatten_cons, List.length_append, List.length_cons]
      omega
  unfold eR
  split
  · simp only [List.length_append]; omega
  · simp only [List.length_append, List.length_nil]; omega
theorem rowB_few {x : RwA} (h : may x = true) : 0 < (rowB x).length ∧ (rowB x).length < 600 := by
  obtain ⟨m1, m2, m3, m4, hck⟩ := may_zero h
  have h1 := eR_few hck
  have h2 := (chk_zero hck).2.2.2.2.2.1
  have l0 : (eN x.num).length ≤ 6 := eN_len6 (by omega) m2
  have l1 : (eN x.at_).length ≤ 6 := eN_len6 (by omega) m4
  have l2 := eN_pos x.num
  unfold rowB
  simp only [List.length_append]
  omega
end Go.Proofs.Ytkpgdonpmfebaaa.Rl

/- The law's helpers: pick, same, sameRow. -/
namespace Go.Proofs.Ytkpgdonpmfebaaa.Rl
open Go.Proofs.Ytkpgdonpmfebaaa.Bt
open Go.RowKit Go.Hp
attribute [local go_sem] min2_lean min_two max2_lean max_two
set_option linter.unusedSimpArgs false
set_option linter.unusedVariables false
set_option maxRecDepth 100000
def pickI (c : Int) (n : Nat) : Nat := ((if c < 0 then -(c + 1) else c) % (n : Int)).toNat
theorem pickI_lt (c : Int) {n : Nat} (h : 0 < n) : pickI c n < n := by
  unfold pickI
  have h1 := Int.emod_nonneg (if c < 0 then -(c + 1) else c) (show (n : Int) ≠ 0 by omega)
  have h2 := Int.emod_lt_of_pos (if c < 0 then -(c + 1) else c) (show (0 : Int) < n by omega)
  omega
theorem pick_any (c : Int) (n : Nat) (w : World) (hc : (Lit.int .i64 c).wf = true) (h0 : 0 < n) (h1 : n < 1000000) :
    Calls Try.prog 40 #[.int .i64 c, .int .i64 n] w fun e w' => e = .returned (.int .i64 (pickI c n)) ∧ w = w' := by
  simp [Lit.wf, IntKind.min, IntKind.max, IntKind.signed, IntKind.bits] at hc
  have hp : ∀ x : Int, 0 ≤ x → ((x % (n : Int)).toNat : Int) = x % (n : Int) := fun x _ => by
    have h3 := Int.emod_nonneg x (show (n : Int) ≠ 0 by omega)
    omega
  unfold pickI
  by_cases h : c < 0
  · rw [if_pos h, hp _ (by omega)]
    obtain ⟨hc1, hc2⟩ := hc
    have e1 : decide (c < 0) = true := by simpa using h
    have w1 : IntKind.i64.wrap (c + 1) = c + 1 := IntWalk.i64_in _ (by omega)
    have w2 : IntKind.i64.wrap (-(c + 1)) = -(c + 1) := IntWalk.i64_in _ (by omega)
    have hn : ((n : Int) == 0) = false := by simp; omega
    clear hp
    go_enter Try.func40, Try.ntmps40
    go_wp2_with fail
    go_ret
    refine ⟨?_, rfl⟩
    simp only [Array.getD]
    show Ending.returned (.int .i64 (-((c + 1).tmod n))) = _
    rw [← Int.neg_tmod, Int.tmod_eq_emod_of_nonneg (by omega)]
  · rw [if_neg h, hp _ (by omega)]
    obtain ⟨hc1, hc2⟩ := hc
    have e1 : decide (c < 0) = false := by simpa using h
    have hn : ((n : Int) == 0) = false := by simp; omega
    clear hp
    go_enter Try.func40, Try.ntmps40
    go_wp2_with fail
    go_ret
    exact ⟨rfl, rfl⟩
/-- Two slices of bytes compared. -/
theorem same_any (A B : Option Addr) (n m c d : Nat) (xs ys : List UInt8) (w : World) (hx : Src w (.slice A n c) n 1 (xs.map bv)) (hy : Src w (.slice B m d) m 1 (ys.map bv)) :
    Calls Try.prog 47 #[.slice A n c, .slice B m d] w fun e w' => ∃ q : Bool, e = .returned (.bool q) ∧ (xs = ys → q = true) ∧ w = w' := by
  have h1 := conv_src w (.slice A n c) xs (by have := hx.1; rw [show xs.length = n from by simpa using this]; exact hx)
  have h2 := conv_src w (.slice B m d) ys (by have := hy.1; rw [show ys.length = m from by simpa using this]; exact hy)
  clear hx hy
  go_enter Try.func47, Try.ntmps47
  go_wp2_with fail
  go_ret
  exact ⟨_, rfl, fun h => by simpa using h, rfl⟩
/-- Two rows compared. -/
def sameP (a b : RwA) (w : World) (e : Ending) (w' : World) : Prop := ∃ q : Bool, e = .returned (.bool q) ∧ (a = b → q = true) ∧ Chg (fun _ => False) w w'
theorem sameRow_ne (a b : RwA) (A B : Option Addr) (n c m d : Nat) (w : World) (b1 b2 b3 b4 b5 : Bool) (e1 : (a.num != b.num) = b1) (e2 : (a.at_ != b.at_) = b2) (e3 : (a.code != b.code) = b3) (e4 : (a.n != b.n) = b4) (e5 : ((n : Int) != (m : Int)) = b5) (e6 : decide (n = m) = !b5) (h : (b1 || b2 || b3 || b4 || b5) = true) (hne : a ≠ b) :
    Calls Try.prog 44 #[.agg (a.cells (.slice A n c)), .agg (b.cells (.slice B m d))] w (sameP a b w) := by
  obtain ⟨num, at_, code, k, xs⟩ := a
  obtain ⟨num', at', code', k', ys⟩ := b
  simp only [RwA.cells] at e1 e2 e3 e4 ⊢
  have HC := Lib.hid (((Chg.refl (fun _ => False) w).alloc (.cells #[.int .i64 num, .int .i64 at_, .int .i64 code, .int .i64 k, .slice A n c] 75)).alloc (.cells #[.int .i64 num', .int .i64 at', .int .i64 code', .int .i64 k', .slice B m d] 75))
  have HN := Lib.hid hne
  clear hne
  cases b1
  · cases b2
    · cases b3
      · cases b4
        · cases b5
          · simp at h
          · go_enter Try.func44, Try.ntmps44
            go_wp2_with fail
            go_ret
            exact ⟨_, rfl, fun h => absurd h HN.out, HC.out⟩
        · go_enter Try.func44, Try.ntmps44
          go_wp2_with fail
          go_ret
          exact ⟨_, rfl, fun h => absurd h HN.out, HC.out⟩
      · go_enter Try.func44, Try.ntmps44
        go_wp2_with fail
        go_ret
        exact ⟨_, rfl, fun h => absurd h HN.out, HC.out⟩
    · go_enter Try.func44, Try.ntmps44
      go_wp2_with fail
      go_ret
      exact ⟨_, rfl, fun h => absurd h HN.out, HC.out⟩
  · go_enter Try.func44, Try.ntmps44
    go_wp2_with fail
    go_ret
    exact ⟨_, rfl, fun h => absurd h HN.out, HC.out⟩
theorem sameRow_eq (num at_ code k : Int) (xs ys : List ByteArray) (A B : Option Addr) (n c d : Nat) (w : World) (hx : Src w (.slice A n c) n 1 (xs.map Value.string)) (hy : Src w (.slice B n d) n 1 (ys.map Value.string)) (hn : n ≤ 140737488355328) :
    Calls Try.prog 44 #[.agg #[.int .i64 num, .int .i64 at_, .int .i64 code, .int .i64 k, .slice A n c], .agg #[.int .i64 num, .int .i64 at_, .int .i64 code, .int .i64 k, .slice B n d]] w (sameP ⟨num, at_, code, k, xs⟩ ⟨num, at_, code, k, ys⟩ w) := by
  have HC := Lib.hid (((Chg.refl (fun _ => False) w).alloc (.cells #[.int .i64 num, .int .i64 at_, .int .i64 code, .int .i64 k, .slice A n c] 75)).alloc (.cells #[.int .i64 num, .int .i64 at_, .int .i64 code, .int .i64 k, .slice B n d] 75))
  have HXL := Lib.hid (show xs.length = n by have := hx.1; simpa using this)
  have HYL := Lib.hid (show ys.length = n by have := hy.1; simpa using this)
  have HX := Lib.hid (Src.keep0 hx HC.out)
  have HY := Lib.hid (Src.keep0 hy HC.out)
  clear hx hy
  have e1 : (num != num) = false := by simp
  have e2 : (at_ != at_) = false := by simp
  have e3 : (code != code) = false := by simp
  have e4 : (k != k) = false := by simp
  have e5 : ((n : Int) != (n : Int)) = false := by simp
  go_enter Try.func44, Try.ntmps44
  go_wp2_with fail
  have hb1 := Blk.new (w.alloc (.cells #[.int .i64 num, .int .i64 at_, .int .i64 code, .int .i64 k, .slice A n c] 75)) #[.int .i64 num, .int .i64 at_, .int .i64 code, .int .i64 k, .slice B n d] 75
  rw [show (w.alloc (.cells #[.int .i64 num, .int .i64 at_, .int .i64 code, .int .i64 k, .slice A n c] 75)).heap.size = w.heap.size + 1 by simp] at hb1
  have hb0 := (Blk.new w #[.int .i64 num, .int .i64 at_, .int .i64 code, .int .i64 k, .slice A n c] 75).alloc (.cells #[.int .i64 num, .int .i64 at_, .int .i64 code, .int .i64 k, .slice B n d] 75)
  obtain ⟨W, hW⟩ : ∃ W, W = ((w.alloc (.cells #[.int .i64 num, .int .i64 at_, .int .i64 code, .int .i64 k, .slice A n c] 75)).alloc (.cells #[.int .i64 num, .int .i64 at_, .int .i64 code, .int .i64 k, .slice B n d] 75)) := ⟨_, rfl⟩
  rw [← hW] at hb0 hb1 HC HX HY ⊢
  obtain ⟨⟨p0, p1, p2, p3, p4⟩, -⟩ := Blk.five hb0
  obtain ⟨⟨q0, q1, q2, q3, q4⟩, -⟩ := Blk.five hb1
  clear hW hb0 hb1
  go_loopw [5] (fun x5 wr => ∃ (i j : Nat), x5 = .int .i64 i ∧ i ≤ n ∧ W.drewN j = wr) (fun x5 _ => n - (intOf x5).toNat)
  case atStart => exact ⟨0, 0, rfl, Nat.zero_le _, rfl⟩
  case round =>
    obtain ⟨i, j, rfl, hi, rfl⟩ := hrel
    by_cases hlt : i < n
    · have hd : decide ((i : Int) < (n : Int)) = true := by simp; omega
      have hd' : decide (i < n) = true := by simpa using hlt
      have hil : i < xs.length := by rw [HXL.out]; exact hlt
      have hjl : i < ys.length := by rw [HYL.out]; exact hlt
      obtain ⟨ad, rfl, hcx⟩ := src_at HX.out i hil
      obtain ⟨bd, rfl, hcy⟩ := src_at HY.out i hjl
      have HNE := Lib.hid (fun (h : xs[i] ≠ ys[i]) => show (⟨num, at_, code, k, xs⟩ : RwA) ≠ ⟨num, at_, code, k, ys⟩ from fun h2 => by
        have h3 : xs = ys := (RwA.mk.inj h2).2.2.2.2
        subst h3
        exact h rfl)
      generalize xs[i] = a at *
      generalize ys[i] = b at *
      clear hil hjl
      go_wp2_with fail
      go_quiet (fail)
      go_wp2_with fail
      · go_ret
        exact ⟨_, rfl, fun h => absurd h (HNE.out fun e => by subst e; exact absurd (show (!a.toList == a.toList) = true by assumption) (by simp)), (HC.out.drewN _).drewN _⟩
      · go_roundw
        case rel => exact ⟨i + 1, _, by simp, by omega, rfl⟩
        case measure => simp [intOf]; omega
    · have hd : decide ((i : Int) < (n : Int)) = false := by simp; omega
      have hd' : decide (i < n) = false := by simpa using hlt
      go_wp2_with fail
      go_ret
      exact ⟨_, rfl, fun _ => rfl, HC.out.drewN _⟩
theorem sameRow_any (a b : RwA) (A B : Option Addr) (n c m d : Nat) (w : World) (hx : Src w (.slice A n c) n 1 (a.its.map Value.string)) (hy : Src w (.slice B m d) m 1 (b.its.map Value.string)) (hn : n ≤ 140737488355328) :
    Calls Try.prog 44 #[.agg (a.cells (.slice A n c)), .agg (b.cells (.slice B m d))] w (sameP a b w) := by
  have hxl : a.its.length = n := by have := hx.1; simpa using this
  have hyl : b.its.length = m := by have := hy.1; simpa using this
  by_cases h : (a.num != b.num || a.at_ != b.at_ || a.code != b.code || a.n != b.n || (n : Int) != (m : Int)) = true
  · refine sameRow_ne a b A B n c m d w _ _ _ _ _ rfl rfl rfl rfl rfl ?_ h ?_
    · by_cases e : n = m
      · simp [e]
      · have : (n : Int) ≠ m := by omega
        simp [e, this]
    · rintro rfl
      have e : n = m := hxl.symm.trans hyl
      subst e
      simp at h
  · have h : (a.num != b.num || a.at_ != b.at_ || a.code != b.code || a.n != b.n || (n : Int) != (m : Int)) = false := by simpa using h
    obtain ⟨num, at_, code, k, xs⟩ := a
    obtain ⟨num', at', code', k', ys⟩ := b
    simp only [Bool.or_eq_false_iff, bne_eq_false_iff_eq] at h
    obtain ⟨⟨⟨⟨rfl, rfl⟩, rfl⟩, rfl⟩, e⟩ := h
    obtain rfl : n = m := by omega
    exact sameRow_eq num at_ code k xs ys A B n c d w hx hy hn
end Go.Proofs.Ytkpgdonpmfebaaa.Rl

/- The law's helper rows; what a Set does, in plain words. -/
namespace Go.Proofs.Ytkpgdonpmfebaaa.Rl
open Go.Proofs.Ytkpgdonpmfebaaa.Bt
open Go.RowKit Go.Hp
attribute [local go_sem] min2_lean min_two max2_lean max_two
set_option linter.unusedSimpArgs false
set_option linter.unusedVariables false
set_option maxRecDepth 100000
/-- Slices of bytes in a row. -/
def LLf (n : Nat) (f : Nat → Value) (b : Nat → List UInt8) : Nat → Hp.Own := fun i => if i < n then Hp.Own.row 5 1 (f i) (b i).length ((b i).map bv) else Hp.Own.emp
def LL (v : Value) (n : Nat) (f : Nat → Value) (b : Nat → List UInt8) : Hp.Own := Hp.Own.both (Hp.Own.row 38 1 v n ((List.range n).map f)) (Own.fam (LLf n f b))
theorem LL.nil {w w' : World} {O : Hp.Own} (hc : Turns w w' O Hp.Own.emp) (f : Nat → Value) (b : Nat → List UInt8) : Turns w w' O (LL (.slice none 0 0) 0 f b) :=
  ⟨hc.chg, ⟨World.ownsRow_nil _ _ _ _, ⟨fun i => by unfold LLf; rw [if_neg (Nat.not_lt_zero i)]; trivial, fun i j b hi _ => by unfold LLf at hi; rw [if_neg (Nat.not_lt_zero i)] at hi; exact hi.elim⟩, fun b h _ => by cases h⟩, fun b hb => hb.elim (fun h => by cases h) (fun ⟨i, hi⟩ => by unfold LLf at hi; rw [if_neg (Nat.not_lt_zero i)] at hi; exact hi.elim)⟩
theorem LL.add {w W W' W'' : World} {O : Hp.Own} {v v' x : Value} {n : Nat} {f : Nat → Value} {b : Nat → List UInt8} (h : Turns w W O (LL v n f b)) (tx : Turns W W' Hp.Own.emp (Hp.Own.row 5 1 x (b n).length ((b n).map bv)))
    (ta : Turns W' W'' (Hp.Own.row 38 1 v n ((List.range n).map f)) (Hp.Own.row 38 1 v' (n + 1) ((List.range n).map f ++ [x]))) : Turns w W'' O (LL v' (n + 1) (fun i => if i = n then x else f i) b) := by
  have t1 : Turns W W' (LL v n f b) (Hp.Own.both (Hp.Own.row 38 1 v n ((List.range n).map f)) (Own.fam (LLf (n + 1) (fun i => if i = n then x else f i) b))) := by
    have hn : LLf n f b n = Hp.Own.emp := by unfold LLf; rw [if_neg (Nat.lt_irrefl n)]
    have t2 := Turns.rightT h.now (Turns.famE h.now.2.1 n hn tx)
    refine t2.to ?_
    congr 1
    refine Own.fam_as fun i => ?_
    unfold upd LLf
    by_cases e : i = n
    · subst e
      simp
    · simp only [if_neg e]
      by_cases e2 : i < n
      · rw [if_pos e2, if_pos (by omega)]
      · rw [if_neg e2, if_neg (by omega)]
  refine (h.trans (t1.trans (Turns.left t1.now ta))).to ?_
  unfold LL
  rw [range_add]
theorem LL.l2 {w : World} {A : Option Addr} {n c : Nat} {f : Nat → Value} {b : Nat → List UInt8} (h : (LL (.slice A n c) n f b).holds w) (hb : ∀ i, i < n → (b i).length ≤ 140737488355328) : L2 w (.slice A n c) ((List.range n).map b) := by
  have hl : ((List.range n).map b).length = n := by simp
  refine ⟨(List.range n).map f, ?_, fun j hj => ?_⟩
  · rw [hl]; exact Src.of_own (show w.ownsRow 0 38 1 (.slice A n c) n ((List.range n).map f) from h.1)
  · rw [hl] at hj
    have e : ((List.range n).map b)[j] = b j := by simp
    rw [e]
    have h1 := h.2.1.1 j
    unfold LLf at h1
    rw [if_pos hj] at h1
    have h2 : w.ownsRow 0 5 1 (f j) (b j).length ((b j).map bv) := h1
    obtain ⟨B, d, hv⟩ := row_slice h2
    rw [hv] at h2
    exact ⟨B, d, by rw [range_at f hj, hv], Src.of_own h2, hb j hj⟩
theorem bytes_few {s : RlS} (h : s.ok) (k : Int) : (s.bytes k).length < 600 ∧ s.has k = decide (0 < (s.bytes k).length) := by
  unfold RlS.bytes
  by_cases hk : s.has k = true
  · rw [if_pos hk, hk]
    have h1 := rowB_few (RlS.last_may h hk)
    exact ⟨h1.2, by simp [h1.1]⟩
  · rw [if_neg hk]
    exact ⟨by simp, by simpa using hk⟩
theorem bytes_at (s : RlS) (g : Nat) (hg : s.g = g) (k : Int) (w : World) (hs : s.own.holds w) (hok : s.ok) :
    Calls Try.prog 43 #[.pointer (some ⟨g, 0, none⟩), .int .i64 k] w fun e w' => ∃ A c, e = .returned (.slice A (s.bytes k).length c) ∧ Turns w w' Hp.Own.emp (Hp.Own.row 5 1 (.slice A (s.bytes k).length c) (s.bytes k).length ((s.bytes k).map bv)) := by
  subst hg
  exact bytes_any s k w _ rfl hs hok
theorem Try.info38 : (Try.prog.info? 38).map (fun i => (i.zero, i.size, i.bytes)) = some (some (.slice none 0 0), 1, 24) := by kernel_rfl
theorem rows_any (s : RlS) (g : Nat) (hg : s.g = g) (w : World) (hs : s.own.holds w) (hok : s.ok) :
    Calls Try.prog 46 #[.pointer (some ⟨g, 0, none⟩)] w fun e w' => ∃ A c f, e = .returned (.slice A 8 c) ∧ Turns w w' Hp.Own.emp (LL (.slice A 8 c) 8 f (fun k => s.bytes k)) := by
  have HBY := Lib.hid (fun (i : Nat) W (hc : Chg (fun _ => False) w W) => bytes_at s g hg i W (Own.chg hs hc (fun _ _ h => h)) hok)
  have HT0 := Lib.hid (LL.nil (Turns.refl (w := w) (O := Hp.Own.emp) trivial) (fun _ => .slice none 0 0) (fun k => s.bytes k))
  obtain ⟨is, his, hzas, hzbs, hzcs⟩ := info_parts Try.info38
  clear hs hok hg
  go_enter Try.func46, Try.ntmps46
  go_wp2_with fail
  go_loopw [3, 4] (fun x3 x4 wr => ∃ (i : Nat) (A : Option Addr) (c : Nat) (f : Nat → Value), x4 = .int .i64 i ∧ x3 = .slice A i c ∧ i ≤ 8 ∧ Turns w wr Hp.Own.emp (LL (.slice A i c) i f (fun k => s.bytes k))) (fun _ x4 _ => 8 - (intOf x4).toNat)
  case atStart => exact ⟨0, none, 0, _, rfl, rfl, Nat.zero_le _, HT0.out⟩
  case round =>
    clear HT0
    obtain ⟨i, A, c, f, rfl, rfl, hi, ht⟩ := hrel
    have HT := Lib.hid ht
    clear ht
    by_cases hlt : i < 8
    · have hd : decide ((i : Int) < 8) = true := by simp; omega
      have hd' : decide (i < 8) = true := by simpa using hlt
      have HB := Lib.hid (fun W hc => HBY.out i W hc)
      have HTA := Lib.hid (fun W' W'' v' x => LL.add (W' := W') (W'' := W'') (v' := v') (x := x) HT.out)
      obtain ⟨b, hb⟩ : ∃ b, s.bytes (i : Int) = b := ⟨_, rfl⟩
      rw [hb] at HB
      simp only [hb] at HTA
      clear hb
      obtain ⟨m, hm⟩ : ∃ m, b.length = m := ⟨_, rfl⟩
      rw [hm] at HB HTA
      clear hm
      go_wp2_with (first
        | (go_at_call 43; (with_reducible refine (HB.out _ ?_).mono ?_); exact HT.out.chg.mono (fun _ _ h => h); rintro e w1 ⟨A1, c1, rfl, ht1⟩; have HT1 := Lib.hid ht1; have HO1 := Lib.hid (show w1.ownsRow 0 38 1 (.slice A i c) i ((List.range i).map f) from Own.chg (O := Hp.Own.row 38 1 (.slice A i c) i ((List.range i).map f)) HT.out.now.1 (ht1.chg.mono fun _ _ h => h) (fun _ _ h => h)); clear ht1)
        | ((at_builtin; refine wpList_app1 _ rfl (.tmp 9) (.tmp 13) 32 rfl 38 is (.slice none 0 0) 1 24 Try.underlying32 his hzas hzbs hzcs rfl (by decide) (.slice A i c) i ((List.range i).map f) rfl _ _ _ rfl (by first | rfl | simp) HO1.out rfl (by simp [Value.oneCell']) (by simp only [maxLen]; omega) (by omega) ?_; intro g2 c2 w2 hc2 ht2; have HT2 := Lib.hid ht2; clear ht2)))
      have HT3 := Lib.hid (HTA.out _ _ _ _ HT1.out HT2.out)
      go_roundw
      case rel => exact ⟨i + 1, _, c2, _, by simp, rfl, by omega, HT3.out⟩
      case measure => simp [intOf]; omega
    · have hd : decide ((i : Int) < 8) = false := by simp; omega
      have hd' : decide (i < 8) = false := by simpa using hlt
      obtain rfl : i = 8 := by omega
      go_wp2_with fail
      go_ret
      exact ⟨A, c, f, rfl, HT.out⟩
end Go.Proofs.Ytkpgdonpmfebaaa.Rl

/- Package roll: the document's examples; RollNames. -/
namespace Go.Proofs.Ytkpgdonpmfebaaa.Rl
open Go.Proofs.Ytkpgdonpmfebaaa.Bt
open Go.RowKit Go.Hp
attribute [local go_sem] min2_lean min_two max2_lean max_two
set_option linter.unusedSimpArgs false
set_option linter.unusedVariables false
set_option maxRecDepth 100000
theorem nil_src (w : World) : Src w (.slice none 0 0) 0 1 (([] : List ByteArray).map Value.string) := ⟨rfl, Or.inl ⟨0, rfl, rfl⟩⟩
theorem new_ok (g : Nat) : (RlS.new g).ok := fun k hk => Or.inr ⟨rfl, rfl⟩
theorem put_ok {s : RlS} (h : s.ok) {k : Nat} {r : RwA} {v : Value} (hm : may r = true) : (s.put k r v).ok := fun j hj => by
  by_cases e : j = k
  · left; exact ⟨by simp [RlS.put, e], by simp [RlS.put, e, hm]⟩
  · have h1 := h j hj
    simpa [RlS.put, e] using h1
def xB : RwA := ⟨2, 5, 0, 1, []⟩
def s1 (g : Nat) (v : Value) : RlS := (RlS.new g).put 3 xB v
theorem may_B : may xB = true := by simp [may, chk, xB]
theorem s1_ok (g : Nat) (v : Value) : (s1 g v).ok := put_ok (new_ok g) may_B
theorem x_set (s : RlS) (k : Int) (r : RwA) (s' : Value → RlS) (z : Int) (hz : s.setE k r = z) (hp : ∀ v, (if z = 0 then s.put k.toNat r v else s) = s' v) (hok : s.ok) (hi : r.its = []) (w : World) (hs : s.own.holds w) :
    Calls Try.prog 42 #[.pointer (some ⟨s.g, 0, none⟩), .int .i64 k, .agg (r.cells (.slice none 0 0))] w fun e w' => e = .returned (.int .i64 z) ∧ ∃ v, Turns w w' s.own (s' v).own := by
  refine (set_any s k r none 0 0 w hs hok (by rw [hi]; exact nil_src w) (by decide)).mono fun e w' ⟨he, v, ht⟩ => ⟨by rw [he, hz], v, ?_⟩
  rw [hz, hp] at ht
  exact ht
theorem x_seta (g : Nat) (w : World) (hs : (RlS.new g).own.holds w) :
    Calls Try.prog 42 #[.pointer (some ⟨g, 0, none⟩), .int .i64 8, .agg #[.int .i64 1, .int .i64 1, .int .i64 0, .int .i64 0, .slice none 0 0]] w fun e w' => e = .returned (.int .i64 70) ∧ Turns w w' (RlS.new g).own (RlS.new g).own :=
  (x_set (RlS.new g) 8 ⟨1, 1, 0, 0, []⟩ (fun _ => RlS.new g) 70 (by simp [RlS.setE]) (fun v => by simp) (new_ok g) rfl w hs).mono fun e w' ⟨he, v, ht⟩ => ⟨he, ht⟩
theorem x_setb (g : Nat) (w : World) (hs : (RlS.new g).own.holds w) :
    Calls Try.prog 42 #[.pointer (some ⟨g, 0, none⟩), .int .i64 3, .agg #[.int .i64 2, .int .i64 5, .int .i64 0, .int .i64 1, .slice none 0 0]] w fun e w' => e = .returned (.int .i64 0) ∧ ∃ v, Turns w w' (RlS.new g).own (s1 g v).own :=
  x_set (RlS.new g) 3 xB (fun v => s1 g v) 0 (by have := may_B; simp [RlS.setE, RlS.new, this]) (fun v => by simp [s1]) (new_ok g) rfl w hs
theorem x_setc (g : Nat) (v : Value) (w : World) (hs : (s1 g v).own.holds w) :
    Calls Try.prog 42 #[.pointer (some ⟨g, 0, none⟩), .int .i64 3, .agg #[.int .i64 2, .int .i64 6, .int .i64 0, .int .i64 0, .slice none 0 0]] w fun e w' => e = .returned (.int .i64 71) ∧ Turns w w' (s1 g v).own (s1 g v).own :=
  (x_set (s1 g v) 3 ⟨2, 6, 0, 0, []⟩ (fun _ => s1 g v) 71 (by have h : may ⟨2, 6, 0, 0, []⟩ = true := by simp [may, chk]
                                                              simp [RlS.setE, s1, RlS.put, h, xB]) (fun v => by simp) (s1_ok g v) rfl w hs).mono fun e w' ⟨he, v, ht⟩ => ⟨he, ht⟩
theorem x_has (g : Nat) (v : Value) : (s1 g v).has 3 = true ∧ (s1 g v).last 3 = xB := by
  have h : (s1 g v).has 3 = true := by simp [RlS.has, s1, RlS.put]
  exact ⟨h, by unfold RlS.last; rw [if_pos h]; simp [s1, RlS.put]⟩
theorem x_last (g : Nat) (v : Value) (w : World) (hs : (s1 g v).own.holds w) :
    Calls Try.prog 41 #[.pointer (some ⟨g, 0, none⟩), .int .i64 3] w fun e w' => ∃ A c, e = .returned (.tuple #[.agg #[.int .i64 2, .int .i64 5, .int .i64 0, .int .i64 1, .slice A 0 c], .bool true]) ∧ Turns w w' Hp.Own.emp (its A 0 c []) := by
  refine (last_any (s1 g v) 3 w hs (s1_ok g v)).mono fun e w' ⟨A, c, he, ht⟩ => ?_
  rw [(x_has g v).1, (x_has g v).2] at he
  rw [(x_has g v).2] at ht
  exact ⟨A, c, he, ht⟩
theorem vi5 (n : Nat) (h : n < 128) : vi n = [UInt8.ofNat n] := by rw [vi_lt h]
theorem x_rowB (g : Nat) (v : Value) : (s1 g v).bytes 3 = [2, 5, 0, 1, 0] := by
  unfold RlS.bytes
  rw [(x_has g v).1, (x_has g v).2]
  simp [rowB, xB, eR, eN, enc, vi5]
theorem x_bytes (g : Nat) (v : Value) (w : World) (hs : (s1 g v).own.holds w) :
    Calls Try.prog 43 #[.pointer (some ⟨g, 0, none⟩), .int .i64 3] w fun e w' => ∃ b c, e = .returned (.slice (some ⟨b, 0, none⟩) 5 c) ∧ w'.cell? ⟨b, 0, none⟩ = some (.int .u8 2) ∧ w'.cell? ⟨b, 1, none⟩ = some (.int .u8 5) ∧ Chg (fun _ => False) w w' := by
  refine (bytes_any (s1 g v) 3 w 5 (by rw [x_rowB]; rfl) hs (s1_ok g v)).mono fun e w' ⟨A, c, he, ht⟩ => ?_
  rw [x_rowB] at ht
  have hr : w'.ownsRow 0 5 1 (.slice A 5 c) 5 _ := ht.now
  obtain ⟨b, c', e1, _⟩ := row_form hr (by decide)
  injection e1 with e2 e3 e4
  subst e2
  subst he
  exact ⟨b, c, rfl, (row_at hr 0 rfl).1, (row_at hr 1 rfl).1, ht.chg.mono fun _ _ h => h⟩
theorem shown_any (w : World) : Calls Try.prog 12 #[] w fun e w' => e = .returned (.bool true) ∧ Chg (fun _ => False) w w' := by
  have HNW := Lib.hid (fun W => new_any W)
  have HSA := Lib.hid x_seta
  have HSB := Lib.hid x_setb
  have HSC := Lib.hid x_setc
  have HLA := Lib.hid x_last
  have HBY := Lib.hid x_bytes
  go_enter Try.func12, Try.ntmps12
  go_wp2_with (first
    | (go_at_call 39; (with_reducible refine (HNW.out _).mono ?_); rintro e w1 ⟨g, rfl, ht1⟩; have HT1 := Lib.hid ht1; clear ht1)
    | (go_at_call 42; (with_reducible refine (HSA.out _ _ HT1.out.now).mono ?_); rintro e w2 ⟨rfl, ht2⟩; have HT2 := Lib.hid (HT1.out.trans ht2); clear ht2)
    | (go_at_call 42; (with_reducible refine (HSB.out _ _ HT2.out.now).mono ?_); rintro e w3 ⟨rfl, v3, ht3⟩; have HT3 := Lib.hid (HT2.out.trans ht3); clear ht3)
    | (go_at_call 42; (with_reducible refine (HSC.out _ _ _ HT3.out.now).mono ?_); rintro e w4 ⟨rfl, ht4⟩; have HT4 := Lib.hid (HT3.out.trans ht4); clear ht4)
    | (go_at_call 41; (with_reducible refine (HLA.out _ _ _ HT4.out.now).mono ?_); rintro e w5 ⟨A5, c5, rfl, ht5⟩; have HB5 := Lib.hid (Blk.new w5 #[.int .i64 2, .int .i64 5, .int .i64 0, .int .i64 1, .slice A5 0 c5] 75); have HT5 := Lib.hid (HT4.out.kept (ht5.chg.alloc (.cells #[.int .i64 2, .int .i64 5, .int .i64 0, .int .i64 1, .slice A5 0 c5] 75))); clear ht5)
    | (go_at_call 43; (with_reducible refine (HBY.out _ _ _ HT5.out.now).mono ?_); rintro e w6 ⟨b6, c6, rfl, q0, q1, hc6⟩; have HT6 := Lib.hid (HT5.out.kept hc6); obtain ⟨⟨p0, p1, p2, p3, p4⟩, -⟩ := Blk.five (HB5.out.chg hc6 (fun h => h)); clear hc6))
  go_ret
  exact ⟨rfl, HT6.out.chg.mono fun _ _ h => h⟩
theorem names_true (w : World) : Calls Try.prog 3 #[] w fun e w' => e = .returned (.bool true) ∧ Below w.heap.size w w' := by
  go_enter Try.func3, Try.ntmps3
  go_wp2_with (go_at_call 12; refine (shown_any _).mono ?_; rintro r w1 ⟨rfl, hc⟩; have HC := Lib.hid hc; clear hc)
  go_ret
  exact ⟨rfl, HC.out.below (fun _ h => h.elim) (Nat.le_refl _)⟩
end Go.Proofs.Ytkpgdonpmfebaaa.Rl

/- Arguments opened: slices of anything. Plain. -/
namespace Go.Hp
open Go.RowKit Go.Deep
set_option linter.unusedVariables false
/-- What can be read of one thing's cells. -/
abbrev Rd (α : Type) := World → List Value → α → Prop
def Rd.Keeps {α : Type} (R : Rd α) : Prop := ∀ {w w' : World} {cs : List Value} {x : α}, R w cs x → Chg (fun _ => False) w w' → R w' cs x
def IntR (k : IntKind) : Rd Int := fun _ cs n => cs = [.int k n] ∧ (Lit.int k n).wf = true
def StrR : Rd ByteArray := fun _ cs s => cs = [.string s] ∧ s.size ≤ 140737488351232
def BoolR : Rd Bool := fun _ cs b => cs = [.bool b]
/-- A slice of things of so many cells. -/
def SlR {α : Type} (size bytes : Nat) (R : Rd α) : Rd (List α) := fun w cs l =>
  ∃ A cap, cs = [.slice A l.length cap] ∧ l.length ≤ cap ∧ cap * bytes ≤ 140737488351232 ∧ cap ≤ maxLen ∧ ∀ i (h : i < l.length), ∃ b off, A = some ⟨b, off, none⟩ ∧ b < w.heap.size ∧ ∃ ds, ds.length = size ∧ R w ds l[i] ∧ ∀ j u, ds[j]? = some u → w.cell? ⟨b, off + i * size + j, none⟩ = some u
theorem IntR.keeps (k : IntKind) : (IntR k).Keeps := fun h _ => h
theorem StrR.keeps : StrR.Keeps := fun h _ => h
theorem BoolR.keeps : BoolR.Keeps := fun h _ => h
theorem SlR.keeps {α : Type} {size bytes : Nat} {R : Rd α} (hR : R.Keeps) : (SlR size bytes R).Keeps := fun {w w' cs l} h hc => by
  obtain ⟨A, cap, h1, h2, h3, h4, h5⟩ := h
  refine ⟨A, cap, h1, h2, h3, h4, fun i hi => ?_⟩
  obtain ⟨b, off, ha, hb, ds, d1, d2, d3⟩ := h5 i hi
  exact ⟨b, off, ha, Nat.lt_of_lt_of_le hb hc.size, ds, d1, hR d2 hc, fun j u hu => (hc.cell (p := ⟨b, off + i * size + j, none⟩) hb (fun h => h)).trans (d3 j u hu)⟩
/-- One-cell things as a source. -/
theorem SlR.src {α : Type} {bytes : Nat} {R : Rd α} {w : World} {A : Option Addr} {n c : Nat} {l : List α} (g : α → Value) (hg : ∀ w cs x, R w cs x → cs = [g x]) (h : SlR 1 bytes R w [.slice A n c] l) : l.length = n ∧ Src w (.slice A n c) n 1 (l.map g) := by
  obtain ⟨A', cap, h1, h2, h3, h4, h5⟩ := h
  simp only [List.cons.injEq, Value.slice.injEq, and_true] at h1
  obtain ⟨rfl, rfl, rfl⟩ := h1
  refine ⟨rfl, by simp, ?_⟩
  cases l with
  | nil =>
    cases A with
    | none =>
      by_cases hc : c = 0
      · subst hc; exact Or.inl ⟨0, rfl, rfl⟩
      · exact Or.inl ⟨c, rfl, rfl⟩
    | some a => exact Or.inr ⟨a, c, rfl, fun j u hu => by simp at hu⟩
  | cons x r =>
    obtain ⟨b, off, rfl, _⟩ := h5 0 (by simp)
    refine Or.inr ⟨_, c, rfl, fun j u hu => ?_⟩
    obtain ⟨hj, rfl⟩ := List.getElem?_eq_some_iff.1 hu
    have hj : j < (x :: r).length := by simpa using hj
    obtain ⟨b', off', ha, _, ds, d1, d2, d3⟩ := h5 j hj
    simp only [Option.some.injEq, Addr.mk.injEq, and_true] at ha
    obtain ⟨rfl, rfl⟩ := ha
    have h6 := hg _ _ _ d2
    have h7 := d3 0 (g (x :: r)[j]) (by rw [h6]; rfl)
    have ha : (⟨b, off, none⟩ : Addr).add j = ⟨b, off + j * 1 + 0, none⟩ := by unfold Addr.add; split <;> simp_all
    rw [ha, h7]
    exact congrArg some (List.getElem_map g).symm
theorem SlR.at_ {α : Type} {size bytes : Nat} {R : Rd α} {w : World} {A : Option Addr} {n c : Nat} {l : List α} (h : SlR size bytes R w [.slice A n c] l) {i : Nat} (hi : i < l.length) :
    ∃ b off, A = some ⟨b, off, none⟩ ∧ b < w.heap.size ∧ ∃ ds, ds.length = size ∧ R w ds l[i] ∧ ∀ j u, ds[j]? = some u → w.cell? ⟨b, off + i * size + j, none⟩ = some u := by
  obtain ⟨A', cap, h1, h2, h3, h4, h5⟩ := h
  simp only [List.cons.injEq, Value.slice.injEq, and_true] at h1
  obtain ⟨rfl, rfl, rfl⟩ := h1
  exact h5 i hi
theorem SlR.form {α : Type} {size bytes : Nat} {R : Rd α} {w : World} {cs : List Value} {l : List α} (h : SlR size bytes R w cs l) : ∃ A c, cs = [.slice A l.length c] ∧ SlR size bytes R w [.slice A l.length c] l ∧ l.length * bytes ≤ 140737488351232 := by
  have h0 := h
  obtain ⟨A, cap, h1, h2, h3, h4, h5⟩ := h
  exact ⟨A, cap, h1, h1 ▸ h0, Nat.le_trans (Nat.mul_le_mul_right _ h2) h3⟩
section
variable {P : Program} {w : World} {T : TypeId} {cs : List Value}
theorem Rdg.intR {k : IntKind} (hu : P.underlying T = some (.int k)) (h : Rdg P w T cs) : ∃ n, IntR k w cs n := h.int hu
theorem Rdg.strR (hu : P.underlying T = some .string) (h : Rdg P w T cs) : ∃ n, StrR w cs n := h.string hu
theorem Rdg.boolR (hu : P.underlying T = some .bool) (h : Rdg P w T cs) : ∃ n, BoolR w cs n := h.bool hu
theorem Rdg.slR {α : Type} [Inhabited α] {R : Rd α} {e : TypeId} {size bytes : Nat} (hu : P.underlying T = some (.slice e)) (hs : P.cellsOf e = size) (hs0 : 0 < size) (hb : P.bytesOf e = bytes) (hR : ∀ ds, Rdg P w e ds → ∃ x, R w ds x) (h : Rdg P w T cs) : ∃ l, SlR size bytes R w cs l := by
  rcases h.slice hu (by omega) with h0 | ⟨a, l, c, hcs, hl, hm, hby, hi⟩
  · exact ⟨[], none, 0, h0, Nat.le_refl _, by omega, Nat.zero_le _, fun i hi => by simp at hi⟩
  · rw [hb] at hby
    have hx : ∀ i, ∃ x : α, i < l → ∃ b off, a = ⟨b, off, none⟩ ∧ b < w.heap.size ∧ ∃ ds, ds.length = size ∧ R w ds x ∧ ∀ j u, ds[j]? = some u → w.cell? ⟨b, off + i * size + j, none⟩ = some u := by
      intro i
      by_cases hil : i < l
      · obtain ⟨b, off, ds, h1, h2, h3, h4, h5⟩ := hi i (by omega)
        obtain ⟨x, hx⟩ := hR ds h4
        rw [hs] at h3 h5
        exact ⟨x, fun _ => ⟨b, off, h1, h2, ds, h3, hx, h5⟩⟩
      · exact ⟨default, fun h => absurd h hil⟩
    obtain ⟨f, hf⟩ := Classical.axiomOfChoice hx
    have hlen : ((List.range l).map f).length = l := by simp
    refine ⟨(List.range l).map f, some a, c, by rw [hcs, hlen], by rw [hlen]; exact hl, hby, hm, fun i hi => ?_⟩
    obtain ⟨b, off, ha, hbl, ds, d1, d2, d3⟩ := hf i (by simpa using hi)
    refine ⟨b, off, by rw [ha], hbl, ds, d1, ?_, d3⟩
    rw [show ((List.range l).map f)[i] = f i by simp]
    exact d2
theorem ArgOk.slR {α : Type} [Inhabited α] {R : Rd α} {e : TypeId} {size bytes : Nat} {v : Value} (hu : P.underlying T = some (.slice e)) (hs : P.cellsOf e = size) (hs0 : 0 < size) (hb : P.bytesOf e = bytes) (hR : ∀ ds, Rdg P w e ds → ∃ x, R w ds x) (h : ArgOk P w T v) : ∃ A n c l, v = .slice A n c ∧ List.length l = n ∧ SlR size bytes R w [.slice A n c] l ∧ n * bytes ≤ 140737488351232 := by
  obtain ⟨A, n, c, rfl⟩ := h.slice hu
  obtain ⟨l, hl⟩ := Rdg.slR hu hs hs0 hb hR h.rdg
  have e1 : (Value.slice A n c).cells.toList = [.slice A n c] := rfl
  rw [e1] at hl
  obtain ⟨A', c', h1, h2, h3⟩ := hl.form
  simp only [List.cons.injEq, Value.slice.injEq, and_true] at h1
  obtain ⟨rfl, rfl, rfl⟩ := h1
  exact ⟨_, _, _, l, rfl, rfl, hl, h3⟩
end
end Go.Hp

/- A client's row only rises: RollRises. -/
namespace Go.Proofs.Ytkpgdonpmfebaaa.Rl
open Go.Proofs.Ytkpgdonpmfebaaa.Bt
open Go.RowKit Go.Hp
attribute [local go_sem] min2_lean min_two max2_lean max_two
set_option linter.unusedSimpArgs false
set_option linter.unusedVariables false
set_option maxRecDepth 100000
theorem Try.cells_row : Try.prog.cellsOf 75 = 5 := by kernel_rfl
theorem Try.bytes_row : Try.prog.bytesOf 75 = 56 := by kernel_rfl
theorem Try.cells_res : Try.prog.cellsOf 73 = 3 := by kernel_rfl
theorem Try.cells_int : Try.prog.cellsOf 3 = 1 := by kernel_rfl
theorem Try.bytes_int : Try.prog.bytesOf 3 = 8 := by kernel_rfl
theorem Try.cells_str : Try.prog.cellsOf 9 = 1 := by kernel_rfl
theorem Try.bytes_str : Try.prog.bytesOf 9 = 16 := by kernel_rfl
theorem Try.cells_strs : Try.prog.cellsOf 71 = 1 := by kernel_rfl
/-- A row that came in. -/
def RowR : Rd RwA := fun w cs r => ∃ A c, cs = (r.cells (.slice A r.its.length c)).toList ∧ Src w (.slice A r.its.length c) r.its.length 1 (r.its.map Value.string) ∧ r.its.length * 16 ≤ 140737488351232
theorem RowR.keeps : RowR.Keeps := fun {w w' cs r} h hc => by
  obtain ⟨A, c, h1, h2, h3⟩ := h
  exact ⟨A, c, h1, Src.keep0 h2 hc, h3⟩
theorem strs_open {w : World} {cs : List Value} (h : Rdg Try.prog w 71 cs) : ∃ xs : List ByteArray, ∃ A c, cs = [.slice A xs.length c] ∧ Src w (.slice A xs.length c) xs.length 1 (xs.map Value.string) ∧ xs.length * 16 ≤ 140737488351232 := by
  obtain ⟨xs, hx⟩ := Rdg.slR (R := StrR) Try.underlying71 Try.cells_str (by decide) Try.bytes_str (fun ds h => h.strR Try.underlying9) h
  obtain ⟨A, c, h1, h2, h3⟩ := hx.form
  exact ⟨xs, A, c, h1, (h2.src Value.string (fun w cs x h => h.1)).2, h3⟩
instance : Inhabited RwA := ⟨RwA.zero⟩
theorem row_open {w : World} {cs : List Value} (h : Rdg Try.prog w 75 cs) : ∃ r, RowR w cs r := by
  obtain ⟨hl, hf⟩ := h.struct Try.underlying75
  rw [Try.cells_row] at hl
  match cs, hl with
  | [c0, c1, c2, c3, c4], _ =>
    obtain ⟨a, ha, _⟩ := (hf 0 _ rfl).int Try.underlying3
    obtain ⟨b, hb, _⟩ := (hf 1 _ rfl).int Try.underlying3
    obtain ⟨hl2, hf2⟩ := (hf 2 _ rfl).struct Try.underlying73
    obtain ⟨c, hc, _⟩ := (hf2 0 _ rfl).int Try.underlying3
    obtain ⟨d, hd, _⟩ := (hf2 1 _ rfl).int Try.underlying3
    obtain ⟨xs, A, k, hx, hs, hb2⟩ := strs_open (hf2 2 _ rfl)
    simp [Try.cells_int, Try.cells_res, Try.cells_strs] at ha hb hc hd hx
    exact ⟨⟨a, b, c, d, xs⟩, A, k, by rw [ha, hb, hc, hd, hx]; rfl, hs, hb2⟩
/-- What a Set does. -/
theorem set_says (s : RlS) (hok : s.ok) (j : Nat) (hj : j < 8) (r : RwA) (v : Value) :
    (s.setE j r = 0 → (s.put j r v).ok ∧ (s.put j r v).has j = true ∧ (s.put j r v).last j = r ∧ (s.has j = true → (s.last j).num < r.num ∧ (s.last j).at_ < r.at_)) ∧
    (1 ≤ r.num → 1 ≤ r.at_ → r.num ≤ 1099511627776 → r.at_ ≤ 1099511627776 → r.code = 0 → r.n = 0 → r.its = [] → (s.has j = true → (s.last j).num < r.num ∧ (s.last j).at_ < r.at_) → s.setE j r = 0) := by
  have hj2 : (0 : Int) ≤ j ∧ (j : Int) < 8 := by omega
  have hh : s.has j = s.is j := by unfold RlS.has; simp; omega
  have hlast : s.is j = true → s.last j = s.row j := fun h => by unfold RlS.last; rw [if_pos (by rw [hh]; exact h)]; simp
  refine ⟨fun h => ?_, fun a1 a2 a3 a4 a5 a6 a7 a8 => ?_⟩
  · unfold RlS.setE at h
    rw [if_neg (fun h => h hj2)] at h
    by_cases hm : may r = true
    · rw [if_neg (by simp [hm])] at h
      by_cases ho : s.is (j : Int).toNat = true ∧ (r.num ≤ (s.row (j : Int).toNat).num ∨ r.at_ ≤ (s.row (j : Int).toNat).at_)
      · rw [if_pos ho] at h; cases h
      · simp only [Int.toNat_natCast] at ho
        have h1 : (s.put j r v).has j = true := by unfold RlS.has RlS.put; simp; omega
        refine ⟨put_ok hok hm, h1, ?_, fun hw => ?_⟩
        · unfold RlS.last; rw [if_pos h1]; unfold RlS.put; simp
        · rw [hh] at hw
          rw [hlast hw]
          have h2 : ¬ (r.num ≤ (s.row j).num ∨ r.at_ ≤ (s.row j).at_) := fun h3 => ho ⟨hw, h3⟩
          omega
    · rw [if_pos (by simpa using hm)] at h; cases h
  · unfold RlS.setE
    have hm : may r = true := by
      unfold may chk
      rw [a5, a6, a7]
      simp [a1, a2, a3, a4]
    rw [if_neg (fun h => h hj2), if_neg (by simp [hm]), if_neg]
    simp only [Int.toNat_natCast]
    rintro ⟨h1, h2⟩
    have h3 := a8 (by rw [hh]; exact h1)
    rw [hlast h1] at h3
    omega
end Go.Proofs.Ytkpgdonpmfebaaa.Rl

/- A roll made of its own rows' bytes. Plain. -/
namespace Go.Proofs.Ytkpgdonpmfebaaa.Rl
open Go.Proofs.Ytkpgdonpmfebaaa.Bt
open Go.RowKit Go.Hp
attribute [local go_sem] min2_lean min_two max2_lean max_two
set_option linter.unusedSimpArgs false
set_option linter.unusedVariables false
set_option maxRecDepth 100000
theorem rd0_lay (bs : List UInt8) (h : bs.length ≤ 140737488355328) : Lay (rd0 bs) bs := ⟨rfl, Nat.zero_le _, h, rfl⟩
def bytesL (s : RlS) : List (List UInt8) := (List.range 8).map (fun k => s.bytes (k : Nat))
theorem bytesL_at (s : RlS) {k : Nat} (hk : k < 8) : ldB (bytesL s) k = s.bytes k := by
  unfold ldB bytesL
  rw [List.getD_eq_getElem?_getD, range_at _ hk]; rfl
theorem back_row {s : RlS} (hok : s.ok) {k : Nat} (hk : k < 8) : (s.has k = true → RdS.rowOf (rd0 (s.bytes k)) = (s.last k, true)) := fun h => by
  have hb : s.bytes k = rowB (s.last k) := by unfold RlS.bytes; rw [if_pos h]
  have hm := RlS.last_may hok h
  rw [hb]
  exact row_back _ _ hm (rd0_lay _ (by have := (rowB_few hm).2; omega))
theorem back_empty {s : RlS} (hok : s.ok) (k : Nat) : (s.bytes k).isEmpty = !s.has k := by
  have h := (bytes_few hok k).2
  rw [h]
  cases hb : s.bytes (k : Int) with
  | nil => rfl
  | cons a r => simp
theorem back_ok {s : RlS} (hok : s.ok) {k : Nat} (hk : k < 8) : ldOk (bytesL s) k = true := by
  unfold ldOk
  rw [bytesL_at s hk, back_empty hok]
  by_cases h : s.has k = true
  · rw [back_row hok hk h]; simp
  · have h : s.has k = false := by simpa using h
    rw [h]; simp
theorem back_all {s : RlS} (hok : s.ok) : ldAll (bytesL s) = true := by
  unfold ldAll
  simp only [Bool.and_eq_true, decide_eq_true_eq, List.all_eq_true, List.mem_range]
  exact ⟨by simp [bytesL], fun k hk => back_ok hok hk⟩
theorem back_s {s : RlS} (hok : s.ok) (g : Nat) (v : Nat → Value) : (ldS g (bytesL s) 8 v).ok ∧ ∀ k : Nat, k < 8 → (ldS g (bytesL s) 8 v).has k = s.has k ∧ (ldS g (bytesL s) 8 v).last k = s.last k ∧ (ldS g (bytesL s) 8 v).bytes k = s.bytes k := by
  refine ⟨ldS_ok fun k hk => back_ok hok hk, fun k hk => ?_⟩
  have hi : ldIs (bytesL s) 8 k = s.has k := by
    unfold ldIs
    rw [bytesL_at s hk, back_empty hok]
    simp [hk]
  have hh : (ldS g (bytesL s) 8 v).has k = s.has k := by
    rw [← hi]
    unfold RlS.has ldS
    simp; omega
  have hl : (ldS g (bytesL s) 8 v).last k = s.last k := by
    unfold RlS.last
    rw [hh]
    by_cases h : s.has k = true
    · rw [if_pos h, if_pos h]
      show ldRow (bytesL s) 8 (k : Int).toNat = _
      unfold ldRow
      simp only [Int.toNat_natCast]
      rw [hi, if_pos h, bytesL_at s hk, back_row hok hk h]
      unfold RlS.last
      rw [if_pos h]
      simp
    · rw [if_neg h, if_neg h]
  refine ⟨hh, hl, ?_⟩
  unfold RlS.bytes
  rw [hh, hl]
end Go.Proofs.Ytkpgdonpmfebaaa.Rl
