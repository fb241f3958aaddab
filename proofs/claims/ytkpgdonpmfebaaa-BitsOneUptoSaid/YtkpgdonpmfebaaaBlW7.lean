/- BitsOne, walked. -/
import Derived.Test.YtkpgdonpmfebaaaBlX7
import Derived.Test.YtkpgdonpmfebaaaUp
namespace Go.Proofs.Ytkpgdonpmfebaaa.Bt
open Go.RowKit Go.Hp
attribute [local go_sem] min2_lean min_two max2_lean max_two
set_option linter.unusedSimpArgs false
set_option linter.unusedVariables false
set_option maxRecDepth 100000
theorem Try.info36 : (Try.prog.info? 36).map (fun i => (i.zero, i.size, i.bytes)) = some (some (.agg #[.int .i64 0, .int .i64 0, .bool false, .string ⟨#[]⟩]), 4, 40) := by kernel_rfl
theorem Try.cells5 : Try.prog.cellsOf 5 = 1 := by kernel_rfl
theorem Try.bytes5 : Try.prog.bytesOf 5 = 1 := by kernel_rfl
theorem Try.bytes3 : Try.prog.bytesOf 3 = 8 := by kernel_rfl
def cellsOf (its : List ItA) : List Value := (its.map fun x => x.cells.toList).flatten
theorem cellsOf_get : ∀ (its : List ItA) (i : Nat) (h : i < its.length) (j : Nat) (u : Value), its[i].cells.toList[j]? = some u → (cellsOf its)[i * 4 + j]? = some u
  | [], i, h, _, _, _ => by simp at h
  | x :: l, i, h, j, u, hu => by
    have e : cellsOf (x :: l) = x.cells.toList ++ cellsOf l := rfl
    have hx : x.cells.toList.length = 4 := rfl
    rw [e]
    cases i with
    | zero =>
      have hj : j < 4 := by have := (List.getElem?_eq_some_iff.1 hu).1; exact this
      rw [Nat.zero_mul, Nat.zero_add, List.getElem?_append_left (by omega)]
      exact hu
    | succ i =>
      rw [List.getElem?_append_right (by omega), hx, show (i + 1) * 4 + j - 4 = i * 4 + j by omega]
      exact cellsOf_get l i (by simpa using h) j u hu
theorem items_of_row {w : World} {A : Option Addr} {n c : Nat} {its : List ItA} (h : w.ownsRow 0 36 4 (.slice A n c) n (cellsOf its)) (hn : its.length = n) (hf : ∀ i (h : i < its.length), its[i].fits) : ItemsAt w A its := by
  intro i hi
  refine ⟨hf i hi, ?_⟩
  obtain ⟨g, cap, hv, hg, _⟩ := row_form h (by omega)
  obtain ⟨rfl, _, rfl⟩ : A = some ⟨g, 0, none⟩ ∧ n = n ∧ c = cap := by simpa using hv
  refine ⟨g, 0, rfl, hg, fun j u hu => ?_⟩
  have := World.ownsRow.cells (g := g) h rfl (i * 4 + j) u (cellsOf_get its i hi j u hu)
  have ha : (⟨g, 0, none⟩ : Addr).add (i * 4 + j) = ⟨g, 0 + i * 4 + j, none⟩ := by unfold Addr.add; split <;> simp_all <;> omega
  rwa [ha] at this
theorem right_self {x : ItA} (h1 : 1 ≤ x.kind) (h5 : x.kind ≤ 5) (h0 : x.kind = 1 → 0 ≤ x.n) : x.right = x := by
  unfold ItA.right
  rw [if_neg (by omega), if_neg (by rintro ⟨h, h2⟩; have := h0 h; omega)]
theorem encs_snoc (its : List ItA) (x : ItA) (h : x.right = x) : encs (its ++ [x]) = encs its ++ enc x := by
  unfold encs
  simp [h]
theorem tot_snoc (its : List ItA) (x : ItA) : tot (its ++ [x]) = tot its + (1 + x.s.size) := by
  unfold tot
  simp
theorem cellsOf_snoc (its : List ItA) (x : ItA) : cellsOf (its ++ [x]) = cellsOf its ++ x.cells.toList := by
  unfold cellsOf
  simp
/-- What is known of what was read so far. -/
structure Read (bs : List UInt8) (its : List ItA) (i a : Nat) (e : Int) : Prop where
  len : its.length = i
  le : a ≤ bs.length
  tot_ : tot its ≤ i + a
  fits : ∀ i (h : i < its.length), its[i].fits
  whole : e = 0 → encs its = bs.take a
theorem Read.step {bs : List UInt8} {its : List ItA} {i a a2 : Nat} {e e2 k : Int} {g : Nat} {v : Value} {x : ItA} (h : Read bs its i a e) (s : Step g v bs a e k x a2 e2) (h1 : 1 ≤ k) (h5 : k ≤ 5) : Read bs (its ++ [x]) (i + 1) a2 e2 := by
  have hk := s.kind
  have hr : x.right = x := right_self (by omega) (by omega) s.pos
  refine ⟨by simp [h.len], s.end_, ?_, fun j hj => ?_, fun he => ?_⟩
  · rw [tot_snoc]
    have := h.tot_
    have := s.size
    omega
  · by_cases hji : j < its.length
    · rw [List.getElem_append_left hji]; exact h.fits j hji
    · have : j = its.length := by simp at hj; omega
      subst this
      simp only [List.getElem_concat_length]
      exact s.fits
  · obtain ⟨e0, ht⟩ := s.whole he
    rw [encs_snoc its x hr, h.whole e0, ht]
def RightKind (k kk : Int) : Prop := ∃ n b s, (ItA.mk k 0 false ⟨#[]⟩).right = ItA.mk kk n b s ∧ 1 ≤ kk ∧ kk ≤ 5
theorem right_kind (k : Int) : ∃ kk, (ItA.mk k 0 false ⟨#[]⟩).right = ItA.mk kk 0 false ⟨#[]⟩ ∧ 1 ≤ kk ∧ kk ≤ 5 := by
  unfold ItA.right
  by_cases h : k < 1 ∨ 5 < k
  · rw [if_pos h]
    exact ⟨3, rfl, by omega, by omega⟩
  · rw [if_neg h, if_neg (by simp)]
    exact ⟨k, rfl, by omega, by omega⟩
theorem got_step {g : Nat} {v : Value} {bs : List UInt8} {a a2 : Nat} {e e2 k : Int} {x : ItA} (s : Step g v bs a e k x a2 e2) (w : World) (hs : (RdS.mk g v bs a e).own.holds w) (ha : a ≤ bs.length) (hl : bs.length ≤ 140737488355328) (h1 : 1 ≤ k) (h5 : k ≤ 5) :
    Calls Try.prog 34 #[.pointer (some ⟨g, 0, none⟩), .int .i64 k] w fun q w' => q = .returned (.agg #[.int .i64 x.kind, .int .i64 x.n, .bool x.v, .string x.s]) ∧ Turns w w' (RdS.mk g v bs a e).own (RdS.mk g v bs a2 e2).own := by
  refine (got_any (RdS.mk g v bs a e) k w hs ⟨ha, hl⟩ h1 h5).mono ?_
  rintro q w' ⟨rfl, ht⟩
  rw [s.out] at ht
  rw [s.out]
  exact ⟨rfl, ht⟩
set_option maxHeartbeats 1000000 in
theorem bitsOne_any (A B : Option Addr) (N K ca cb : Nat) (bs : List UInt8) (ks : List Int) (w : World) (ha : Src w (.slice A N ca) N 1 (bs.map bv)) (hb : Src w (.slice B K cb) K 1 (ks.map (Value.int .i64))) (hN : N ≤ 1048576) (hK : K ≤ 1048576) :
    Calls Try.prog 7 #[.slice A N ca, .slice B K cb] w (BackPost w) := by
  have hbl : bs.length = N := by have := ha.1; simpa using this
  have hkl : ks.length = K := by have := hb.1; simpa using this
  have HA := Lib.hid ha
  have HB := Lib.hid hb
  have HBL := Lib.hid hbl
  have HKL := Lib.hid hkl
  obtain ⟨it, hit, hzat, hzbt, hzct⟩ := info_parts Try.info36
  obtain ⟨M, hM⟩ : ∃ M : Nat, M = 1048576 := ⟨_, rfl⟩
  have HM := Lib.hid hM
  rw [← hM] at hN hK
  clear ha hb hbl hkl hM
  go_enter Try.func7, Try.ntmps7
  go_wp2_with (first
    | (go_at_call 13; refine (shown_any _).mono ?_; rintro r w2 ⟨rfl, hc⟩; have HC := Lib.hid hc; clear hc)
    | (go_at_call 25; have hq9 := newR_at A ca N bs _ HBL.out (Src.keep HA.out HC.out) (by have := HM.out; omega); (with_reducible refine hq9.mono ?_); clear hq9; rintro r w4 ⟨g, v, rfl, ht⟩; have HR := Lib.hid (ht.addNil 36 4); clear ht))
  go_loopw [7, 8] (fun x7 x8 wr => ∃ (i a ci : Nat) (Ai : Option Addr) (e : Int) (its : List ItA), x8 = .int .i64 i ∧ x7 = .slice Ai i ci ∧ i ≤ K ∧ Read bs its i a e ∧ Turns w2 wr Own.emp (Own.both (RdS.mk g v bs a e).own (Own.row 36 4 (.slice Ai i ci) i (cellsOf its)))) (fun _ x8 _ => K - (intOf x8).toNat)
  case atStart => exact ⟨0, 0, 0, none, 0, [], rfl, rfl, Nat.zero_le _, ⟨rfl, Nat.zero_le _, by simp [tot], fun i h => by simp at h, fun _ => by simp [encs]⟩, HR.out⟩
  case round =>
    obtain ⟨i, a, ci, Ai, e, its, rfl, rfl, hik, hrd, ht⟩ := hrel
    have HRD := Lib.hid hrd
    have HT := Lib.hid ht
    clear hrd ht
    by_cases h : i < K
    · have hd : decide (i < K) = true := by simpa using h
      have hik2 : i < ks.length := by rw [HKL.out]; exact h
      obtain ⟨ab, hAB, hcell⟩ : ∃ ab, B = some ab ∧ wr.cell? (ab.add i) = some (.int .i64 ks[i]) := by
        have h1 := Src.keep HB.out (HC.out.trans HT.out.chg)
        rcases h1.2 with ⟨c', _, h0⟩ | ⟨ad, c', h2, hc⟩
        · omega
        · exact ⟨ad, (Value.slice.inj h2).1, hc i _ (by simp [hik2])⟩
      subst hAB
      obtain ⟨kk, hkk, hk1, hk5⟩ := right_kind ks[i]
      have HRT := fun W => right_any (ItA.mk ks[i] 0 false ⟨#[]⟩) W (by simp) (by simp)
      rw [hkk] at HRT
      simp only [ItA.cells] at HRT
      have HRR := Lib.hid HRT
      clear HRT hkk
      generalize ks[i] = k0 at *
      obtain ⟨x, a2, e2, hst⟩ := step_any g v bs a e kk hk1 hk5 HRD.out.le (by rw [HBL.out]; have := HM.out; omega)
      have HST := Lib.hid hst
      have HG := Lib.hid (fun W hs => got_step hst W hs HRD.out.le (by rw [HBL.out]; have := HM.out; omega) hk1 hk5)
      clear hst hik2
      have HK1 := Lib.hid hk1
      have HK5 := Lib.hid hk5
      have hMn : M ≤ 1048576 := by have := HM.out; omega
      clear hk1 hk5
      obtain ⟨xk, xn, xv, xs⟩ := x
      simp only [] at HG
      go_wp2_with (first
        | (go_at_call 33; refine (HRR.out _).mono ?_; rintro r w5 ⟨rfl, hc5⟩; have HT5 := Lib.hid (HT.out.kept hc5); clear hc5)
        | (go_at_call 34; refine (HG.out _ (by exact (HT5.out.alloc _).now.1)).mono ?_; rintro r w6 ⟨rfl, ht6⟩; have HL6 := Lib.hid (Turns.left (HT5.out.alloc _).now ht6); obtain ⟨d0, d1, d2, d3, f0, f1, f2, f3⟩ := (Blk.beside HT5.out.now (Blk.new w5 _ _) (by omega) (Turns.left (HT5.out.alloc _).now ht6)).four)
        | (at_builtin; refine wpList_app1 _ rfl (.tmp 39) (.tmp 41) 23 rfl 36 it (.agg #[.int .i64 0, .int .i64 0, .bool false, .string ⟨#[]⟩]) 4 40 Try.underlying23 hit hzat hzbt hzct rfl (by decide) (.slice Ai i ci) i (cellsOf its) rfl _ _ _ rfl (by simp) (by exact (Turns.boxes HT5.out.now ((Chg.refl _ _).alloc _) HL6.out (by (repeat (first | (with_reducible exact Chg.refl _ _) | (with_reducible refine Chg.set ?_ (Or.inr ⟨by first | (simp; done) | (simp; omega), by first | (simp; done) | (simp; omega)⟩) _) | (with_reducible refine Chg.set ?_ (Or.inl (by simp)) _) | (with_reducible refine Chg.alloc ?_ _) | (with_reducible refine Chg.drew ?_) | (with_reducible refine Chg.drewN ?_ _))))).now.2.1) rfl (by simp [Value.oneCell']) (by simp only [maxLen]; omega) (by omega) ?_; intro g8 c8 w8 hc8 ht8; have HT8 := Lib.hid (HT5.out.trans ((Turns.boxes HT5.out.now ((Chg.refl _ _).alloc _) HL6.out (by (repeat (first | (with_reducible exact Chg.refl _ _) | (with_reducible refine Chg.set ?_ (Or.inr ⟨by first | (simp; done) | (simp; omega), by first | (simp; done) | (simp; omega)⟩) _) | (with_reducible refine Chg.set ?_ (Or.inl (by simp)) _) | (with_reducible refine Chg.alloc ?_ _) | (with_reducible refine Chg.drew ?_) | (with_reducible refine Chg.drewN ?_ _))))).trans (Turns.rightT (Turns.boxes HT5.out.now ((Chg.refl _ _).alloc _) HL6.out (by (repeat (first | (with_reducible exact Chg.refl _ _) | (with_reducible refine Chg.set ?_ (Or.inr ⟨by first | (simp; done) | (simp; omega), by first | (simp; done) | (simp; omega)⟩) _) | (with_reducible refine Chg.set ?_ (Or.inl (by simp)) _) | (with_reducible refine Chg.alloc ?_ _) | (with_reducible refine Chg.drew ?_) | (with_reducible refine Chg.drewN ?_ _))))).now ht8))); clear ht8))
      go_roundw
      case rel =>
        refine ⟨i + 1, a2, c8, _, e2, its ++ [⟨xk, xn, xv, xs⟩], by simp, rfl, by omega, HRD.out.step HST.out HK1.out HK5.out, ?_⟩
        rw [cellsOf_snoc]
        exact HT8.out
      case measure => simp [intOf]; omega
    · have hd : decide (i < K) = false := by simpa using h
      obtain rfl : i = K := by omega
      have HCL := Lib.hid (fun W hs => close_any (RdS.mk g v bs a e) W hs)
      obtain ⟨ec, hec⟩ : ∃ ec, (RdS.mk g v bs a e).closed.e = ec := ⟨_, rfl⟩
      rw [hec] at HCL
      have hcl : ec = 0 → e = 0 ∧ a = bs.length := fun h0 => by
        rw [h0] at hec
        unfold RdS.closed at hec
        simp only [] at hec
        have := HRD.out.le
        split at hec
        · split at hec
          · simp at hec
          · rename_i h1 h2; exact absurd hec h2
        · exact ⟨hec, by omega⟩
      have HCX := Lib.hid hcl
      generalize (RdS.mk g v bs a e).closed = rc at *
      have htb : tot its < 2147483648 := by have := HRD.out.tot_; have := HRD.out.le; have := HBL.out; have := HM.out; omega
      have HTB := Lib.hid htb
      obtain ⟨NN, hNN⟩ : ∃ NN, (encs its).length = NN := ⟨_, rfl⟩
      have HNN := Lib.hid hNN
      have hnb : NN ≤ 140737488355328 := by
        have h := encs_len its HRD.out.fits its.length (Nat.le_refl _)
        rw [List.take_of_length_le (Nat.le_refl _)] at h
        omega
      clear hec hcl htb hNN
      have hz : ((ec != 0) = true ∧ True) ∨ ec = 0 := by
        by_cases h0 : ec = 0
        · exact Or.inr h0
        · exact Or.inl ⟨by simpa using h0, trivial⟩
      rcases hz with ⟨hz, _⟩ | rfl
      · go_wp2_with (first
          | (go_at_call 35; have hq9 := HCL.out _ HT.out.now.1; (with_reducible refine hq9.mono ?_); clear hq9; rintro r w5 ⟨rfl, ht5⟩; have HT5 := Lib.hid (HT.out.trans (Turns.left HT.out.now ht5)); clear ht5)
          | (go_at_call 36; have hq9 := laid_at Ai its ci i NN _ (items_of_row HT5.out.now.2.1 HRD.out.len HRD.out.fits) HTB.out HRD.out.len HNN.out; (with_reducible refine hq9.mono ?_); clear hq9; rintro r w6 ⟨Ao, co, Av, cv, rfl, ht6⟩; have HT6 := Lib.hid ht6; clear ht6))
        go_ret
        exact ⟨by rfl, ((HC.out.trans (Turns.end_ HT5.out)).trans (Turns.end_ HT6.out)).below (fun _ h => h.elim) (Nat.le_refl _)⟩
      · obtain ⟨rfl, rfl⟩ := HCX.out rfl
        have hwh := HRD.out.whole rfl
        rw [List.take_of_length_le (Nat.le_refl _)] at hwh
        have HWH := Lib.hid hwh
        clear hwh
        go_wp2_with (first
          | (go_at_call 35; have hq9 := HCL.out _ HT.out.now.1; (with_reducible refine hq9.mono ?_); clear hq9; rintro r w5 ⟨rfl, ht5⟩; have HT5 := Lib.hid (HT.out.trans (Turns.left HT.out.now ht5)); clear ht5)
          | (go_at_call 36; have hq9 := laid_at Ai its ci i NN _ (items_of_row HT5.out.now.2.1 HRD.out.len HRD.out.fits) HTB.out HRD.out.len HNN.out; (with_reducible refine hq9.mono ?_); clear hq9; rintro r w6 ⟨Ao, co, Av, cv, rfl, ht6⟩; have HT6 := Lib.hid ht6; clear ht6)
          | (go_at_call 20; have hq9 := same_any Ao A NN N co ca (encs its) bs _ (Src.of_own HT6.out.now.1) (Src.keep HA.out ((HC.out.trans (Turns.end_ HT5.out)).trans (Turns.end_ HT6.out))) hnb; (with_reducible refine hq9.mono ?_); clear hq9; rintro r w7 ⟨rfl, nd, rfl⟩; rw [decide_eq_true HWH.out]))
        go_ret
        exact ⟨by rfl, ((((HC.out.trans (Turns.end_ HT5.out)).trans (Turns.end_ HT6.out)).drewN nd)).below (fun _ h => h.elim) (Nat.le_refl _)⟩
theorem bitsOne_arg (v v' : Value) (w : World) (h : ArgUp w 38 v) (h' : ArgUp w 57 v') : Calls Try.prog 7 #[v, v'] w fun e w' => e = .returned (.bool true) ∧ Below w.heap.size w w' := by
  obtain ⟨A, ns, ca, rfl, hw, hs, _, _⟩ := ints_open Try.underlying38 Try.underlying5 Try.cells5 h.ok
  obtain ⟨B, ks, cb, rfl, _, hs', _, _⟩ := ints_open Try.underlying57 Try.underlying3 Try.cells3 h'.ok
  have h1 := h.len Try.underlying38
  have h2 := h'.len Try.underlying57
  obtain ⟨bs, hbs⟩ : ∃ bs : List UInt8, ns.map (Value.int .u8) = bs.map bv := by
    refine ⟨ns.map fun n => UInt8.ofNat n.toNat, ?_⟩
    rw [List.map_map]
    refine List.map_congr_left fun n hn => ?_
    have := hw n hn
    simp [Lit.wf, IntKind.min, IntKind.max, IntKind.signed, IntKind.bits] at this
    show Value.int .u8 n = bv (UInt8.ofNat n.toNat)
    unfold bv
    rw [UInt8.toNat_ofNat_of_lt' (by simp [UInt8.size]; omega)]
    congr 1
    omega
  rw [hbs] at hs
  exact bitsOne_any A B ns.length ks.length ca cb bs ks w hs hs' h1 h2
end Go.Proofs.Ytkpgdonpmfebaaa.Bt
