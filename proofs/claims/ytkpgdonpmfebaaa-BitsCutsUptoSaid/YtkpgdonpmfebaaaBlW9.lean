/- BitsCuts, walked. -/
import Derived.Test.YtkpgdonpmfebaaaBlX9
namespace Go.Proofs.Ytkpgdonpmfebaaa.Bt
open Go.RowKit Go.Hp
attribute [local go_sem] min2_lean min_two max2_lean max_two
set_option linter.unusedSimpArgs false
set_option linter.unusedVariables false
set_option maxRecDepth 100000
theorem rnum_broken (g : Nat) (v : Value) (bs : List UInt8) (a : Nat) (most : Int) : (RdS.mk g v bs a 10).num most = (0, RdS.mk g v bs a 10) := by
  unfold RdS.num
  rw [if_neg (by simp)]
theorem src_head {w : World} {n c m : Nat} {g : Nat} {xs : List UInt8} (h : Src w (.slice (some ⟨g, 0, none⟩) n c) n 1 (xs.map bv)) (hm : m ≤ n) : Src w (.slice (some ⟨g, 0, none⟩) m m) m 1 ((xs.take m).map bv) := by
  have hl : xs.length = n := by have := h.1; simpa using this
  refine ⟨by simp; omega, ?_⟩
  rcases h.2 with ⟨c', h1, _⟩ | ⟨ad, c', h1, hcell⟩
  · cases h1
  · have hA : ad = ⟨g, 0, none⟩ := by have := (Value.slice.inj h1).1; exact (Option.some.inj this).symm
    subst hA
    refine Or.inr ⟨_, m, rfl, fun j u hu => hcell j u ?_⟩
    rw [List.getElem?_map] at hu ⊢
    rw [List.getElem?_take] at hu
    split at hu
    · exact hu
    · simp at hu
/-- 'got' at a cut. -/
theorem got_short (g : Nat) (v : Value) (bs : List UInt8) (a m : Nat) (x : ItA) (w : World) (hs : (RdS.mk g v bs a 0).own.holds w) (ha : a ≤ bs.length) (hl : bs.length ≤ 140737488355328) (hx : x.right.fits ∧ x.right.s = x.s ∧ 1 ≤ x.right.kind ∧ x.right.kind ≤ 5 ∧ (x.right.kind = 1 → 0 ≤ x.right.n))
    (hm : m < (enc x.right).length) (hd : bs.drop a = (enc x.right).take m) :
    Calls Try.prog 34 #[.pointer (some ⟨g, 0, none⟩), .int .i64 x.right.kind] w fun q w' => ∃ y : ItA, q = .returned (.agg #[.int .i64 y.kind, .int .i64 y.n, .bool y.v, .string y.s]) ∧ Turns w w' (RdS.mk g v bs a 0).own (RdS.mk g v bs a 10).own := by
  refine (got_any (RdS.mk g v bs a 0) x.right.kind w hs ⟨ha, hl⟩ hx.2.2.1 hx.2.2.2.1).mono ?_
  rintro q w' ⟨rfl, ht⟩
  rw [got_cut g v bs a m x.right hx.1 hx.2.2.1 hx.2.2.2.1 hx.2.2.2.2 ha hm hd] at ht
  exact ⟨_, rfl, ht⟩
theorem cut_split (its : List ItA) (i c a : Nat) (h : i < its.length) (ha : (encs (its.take i)).length = a) (hc : a ≤ c) :
    ((encs its).take c).drop a = (enc its[i].right ++ encs (its.drop (i + 1))).take (c - a) := by
  have e : encs its = encs (its.take i) ++ (enc its[i].right ++ encs (its.drop (i + 1))) := by
    rw [← List.append_assoc, ← encs_take its i h]
    unfold encs
    rw [← List.flatten_append, ← List.map_append, List.take_append_drop]
  rw [List.drop_take, e, ← ha, List.drop_left]
set_option maxHeartbeats 2000000 in
theorem bitsCuts_any (A : Option Addr) (its : List ItA) (cap : Nat) (cut : Int) (w : World) (hi : ItemsAt w A its) (hl : its.length * 40 ≤ 140737488351232) (hc0 : -9223372036854775808 ≤ cut) (hc1 : cut ≤ 9223372036854775807) :
    Calls Try.prog 9 #[.slice A its.length cap, .int .i64 cut] w (BackPost w) := by
  have HB := Lib.hid (beyond_any A its cap w hi hl)
  have HI := Lib.hid hi
  have hkeep : Hid (∀ W, Chg (fun _ => False) w W → ItemsAt W A its) := fun W hc i h => by
    obtain ⟨hf, b, off, hA, hb, hcell⟩ := hi i h
    exact ⟨hf, b, off, hA, Nat.lt_of_lt_of_le hb hc.size, fun j u hu => (hc.cell (block_lt_of_cell (hcell j u hu)) (fun h => h)).trans (hcell j u hu)⟩
  obtain ⟨L, hL⟩ : ∃ L, its.length = L := ⟨_, rfl⟩
  rw [hL] at HB hl ⊢
  have HL := Lib.hid hL
  clear hi hL
  obtain ⟨N, hN⟩ : ∃ N, (encs its).length = N := ⟨_, rfl⟩
  have HN := Lib.hid hN
  have hNb : Hid (tot its < 2147483648 → N ≤ 21474836480) := fun ht => by
    have h := encs_len its (fun i h => (HI.out i h).1) its.length (Nat.le_refl _)
    rw [List.take_of_length_le (Nat.le_refl _)] at h
    omega
  have HNb := Lib.hid (show tot its < 2147483648 → N ≤ 21474836480 from hNb.out)
  clear hN hNb
  obtain ⟨C, hC⟩ : ∃ C : Nat, (if cut < 0 then -(cut + 1) else cut) = C := ⟨(if cut < 0 then -(cut + 1) else cut).toNat, by split <;> omega⟩
  obtain ⟨c, hc⟩ : ∃ c : Nat, C % N = c := ⟨_, rfl⟩
  have hCb : C ≤ 9223372036854775807 := by split at hC <;> omega
  have hcN : 0 < N → c < N := fun h => by rw [← hc]; exact Nat.mod_lt _ h
  have HCN := Lib.hid hcN
  clear hcN
  have hneg : (decide (cut < 0) = true ∧ IntKind.i64.wrap (cut + 1) = cut + 1 ∧ IntKind.i64.wrap (-(cut + 1)) = (C : Int)) ∨ (cut = (C : Int)) := by
    by_cases h : cut < 0
    · rw [if_pos h] at hC
      exact Or.inl ⟨by simpa using h, IntWalk.i64_in _ (by omega), by rw [hC]; exact IntWalk.i64_in _ (by omega)⟩
    · rw [if_neg h] at hC
      exact Or.inr hC
  have hrem : ((C : Int) % (N : Int)) = (c : Int) := by rw [← hc]; rfl
  clear hc hC hc0 hc1
  by_cases hN0 : N = 0
  · have hd0 : (N == 0) = true := by simpa using hN0
    have hd0' : ((N : Int) == 0) = true := by simpa using hN0
    clear hneg hrem
    go_enter Try.func9, Try.ntmps9
    go_wp2_with (first
      | (go_at_call 14; refine (HB.out).mono ?_; rintro r w1 ⟨b, rfl, hb, rfl⟩; cases b; (have HBB := Lib.hid (hb rfl); clear hb))
      | (go_at_call 13; refine (shown_any _).mono ?_; rintro r w2 ⟨rfl, hc⟩; have HC := Lib.hid hc; clear hc)
      | (go_at_call 36; have hq9 := laid_at A its cap L N _ (hkeep.out _ HC.out) HBB.out HL.out HN.out; (with_reducible refine hq9.mono ?_); clear hq9; rintro r w3 ⟨Ao, co, Av, cv, rfl, ht⟩; have HT := Lib.hid ht; clear ht))
    · go_ret
      exact ⟨rfl, (HC.out.trans (Turns.end_ HT.out)).below (fun _ h => h.elim) (Nat.le_refl _)⟩
    · go_ret
      exact ⟨rfl, Below.refl _ _⟩
  · have hd0 : (N == 0) = false := by simpa using hN0
    have hd0' : ((N : Int) == 0) = false := by simpa using hN0
    have hNp : 0 < N := by omega
    have hcN2 : c < N := HCN.out hNp
    have HD := Lib.hid hN0
    clear hN0
    rcases hneg with ⟨n1, n2, n3⟩ | rfl
    all_goals
      go_enter Try.func9, Try.ntmps9
      go_wp2_with (first
        | (go_at_call 14; refine (HB.out).mono ?_; rintro r w1 ⟨b, rfl, hb, rfl⟩; cases b; (have HBB := Lib.hid (hb rfl); clear hb))
        | (go_at_call 13; refine (shown_any _).mono ?_; rintro r w2 ⟨rfl, hc⟩; have HC := Lib.hid hc; clear hc)
        | (go_at_call 36; have hq9 := laid_at A its cap L N _ (hkeep.out _ HC.out) HBB.out HL.out HN.out; (with_reducible refine hq9.mono ?_); clear hq9; rintro r w3 ⟨Ao, co, Av, cv, rfl, ht⟩; have HT := Lib.hid ht; obtain ⟨gb, cb, hvb, _, hcb⟩ := row_form ht.now.1 hNp; obtain ⟨rfl, rfl⟩ : Ao = some ⟨gb, 0, none⟩ ∧ co = cb := (by simpa using hvb); clear ht hvb; have hcc := (show c ≤ co by omega))
        | (go_at_call 25; have hq9 := newR_at (some ⟨gb, 0, none⟩) c c ((encs its).take c) _ (by rw [List.length_take, HN.out]; omega) (src_head (Src.of_own HT.out.now.1) (by omega)) (by have := HNb.out HBB.out; omega); (with_reducible refine hq9.mono ?_); clear hq9; rintro r w4 ⟨g, v, rfl, ht⟩; have HR := Lib.hid ((HT.out.dropL).trans (Turns.add HT.out.dropL.now ht)); clear ht))
      rotate_left
      · go_ret
        exact ⟨rfl, Below.refl _ _⟩
      have hnb := HNb.out HBB.out
      have HHR := Lib.hid hrem
      have hcl : Hid (((encs its).take c).length = c) := by show _ = _; rw [List.length_take, HN.out]; omega
      obtain ⟨bs, hbs⟩ : ∃ bs, (encs its).take c = bs := ⟨_, rfl⟩
      rw [hbs] at HR hcl
      have HBS := Lib.hid hbs
      clear hrem hbs
      try (clear n1 n2 n3)
      go_loopw [10, 11] (fun x10 x11 wr => ∃ (i a : Nat), x11 = .int .i64 i ∧ x10 = .int .i64 a ∧ i ≤ L ∧ a ≤ c ∧ (encs (its.take i)).length = a ∧ Turns w2 wr Own.emp (Own.both (RdS.mk g v bs a 0).own (Own.row 3 1 (.slice Av L cv) L (endsC its L)))) (fun _ x11 _ => L - (intOf x11).toNat)
      case atStart => exact ⟨0, 0, rfl, rfl, Nat.zero_le _, Nat.zero_le _, rfl, HR.out⟩
      case round =>
        obtain ⟨i, a, rfl, rfl, hil, hac, ha, ht⟩ := hrel
        have HT2 := Lib.hid ht
        have HA := Lib.hid ha
        have HIL := Lib.hid hil
        clear ht ha
        have h : i < L := by
          rcases Nat.lt_or_ge i L with h | h
          · exact h
          · have hA := HA.out
            rw [List.take_of_length_le (by rw [HL.out]; exact h), HN.out] at hA
            omega
        have hd : decide (i < L) = true := by simpa using h
        have hil : i < its.length := by rw [HL.out]; exact h
        obtain ⟨hf, b, off, rfl, c0, c1, c2, c3⟩ := HI.out.load (HC.out.trans HT2.out.chg) i hil
        have HTK := Lib.hid (encs_take its i hil)
        have HRF := Lib.hid (right_fits hf)
        have hsp := cut_split its i c a hil HA.out hac
        rw [HBS.out] at hsp
        have HSP := Lib.hid hsp
        have HR2 := Lib.hid (fun W => right_any its[i] W hf.2.1.1 hf.2.1.2)
        obtain ⟨a', ha'⟩ : ∃ a', a + (enc its[i].right).length = a' := ⟨_, rfl⟩
        have HA2 := Lib.hid ha'
        obtain ⟨ge, rfl, ce⟩ := row_cell HT2.out.now.2.1 i _ (endsC_get its L i h)
        rw [HTK.out, List.length_append, HA.out, ha'] at ce
        clear ha' hsp
        have hab : a' ≤ 21474836480 := by
          have h1 := encs_part its (i + 1)
          have h3 := congrArg List.length HTK.out
          rw [List.length_append, HA.out, HA2.out] at h3
          rw [HN.out] at h1
          omega
        have HAn : Hid ((encs (its.take (i + 1))).length = a') := by show _ = _; rw [HTK.out, List.length_append, HA.out, HA2.out]
        have hil2 : i < 3518437208780 := by omega
        by_cases hca : c < a'
        · have HG := Lib.hid (fun W hs => got_short g v bs a (c - a) its[i] W hs (by rw [hcl.out]; exact hac) (by rw [hcl.out]; omega) HRF.out (by have := HA2.out; omega) (by have h1 := HSP.out; rw [List.take_append_of_le_length (by have := HA2.out; omega)] at h1; exact h1))
          have HNM := fun W hs => rnum_all (RdS.mk g v bs a 10) W hs ⟨by simp only []; rw [hcl.out]; exact hac, by simp only []; rw [hcl.out]; omega⟩ 9223372036854775807
          simp only [rnum_broken] at HNM
          have HNM2 := Lib.hid HNM
          clear HNM
          have q1 : decide (c < a') = true := by simpa using hca
          have q2 : decide ((C : Int) % (N : Int) < (a' : Int)) = true := by rw [HHR.out]; simpa using hca
          generalize its[i] = it at *
          clear hil hf HRF HA2 HTK HA HSP hca
          obtain ⟨ik, in_, ib, is_⟩ := it
          simp only [] at c0 c1 c2 c3
          generalize hq : ItA.right ⟨ik, in_, ib, is_⟩ = q at *
          clear hq
          simp only [ItA.cells] at HR2
          go_wp2_with (first
            | (go_at_call 33; refine (HR2.out _).mono ?_; rintro r w5 ⟨rfl, hc5⟩; have HT5 := Lib.hid (HT2.out.kept hc5); obtain ⟨ge2, hge, ce2⟩ := row_cell HT5.out.now.2.1 i _ (endsC_get its L i h); obtain rfl : ge = ge2 := (by simpa using hge); rw [HAn.out] at ce2; have hgl : ge < w5.heap.size := block_lt_of_cell ce2; clear hc5)
            | (go_at_call 34; refine (HG.out _ (by exact (HT5.out.alloc _).now.1)).mono ?_; rintro r w6 ⟨y, rfl, ht6⟩; have HT6 := Lib.hid ((HT5.out.alloc _).trans (Turns.left (HT5.out.alloc _).now ht6)))
            | (go_at_call 29; have hq9 := err_any (RdS.mk g v bs a 10) _ HT6.out.now.1; (with_reducible refine hq9.mono ?_); clear hq9; rintro r w7 ⟨rfl, nd, rfl⟩; skip)
            | (go_at_call 38; have hq9 := HNM2.out _ (HT6.out.drewN nd).now.1; (with_reducible refine hq9.mono ?_); clear hq9; rintro r w8 ⟨rfl, ht8⟩; have HT8 := Lib.hid ((HT6.out.drewN nd).trans (Turns.left (HT6.out.drewN nd).now ht8)))
            | (go_at_call 29; have hq9 := err_any (RdS.mk g v bs a 10) _ HT8.out.now.1; (with_reducible refine hq9.mono ?_); clear hq9; rintro r w9 ⟨rfl, ne, rfl⟩; skip))
          go_ret
          exact ⟨by rfl, (HC.out.trans (Turns.end_ (HT8.out.drewN ne))).below (fun _ h => h.elim) (Nat.le_refl _)⟩
        · have hrs : bs.drop a = enc its[i].right ++ ((encs (its.drop (i + 1))).take (c - a - (enc its[i].right).length)) := by
            have h1 := HSP.out
            rw [List.take_append, List.take_of_length_le (by have := HA2.out; omega)] at h1
            exact h1
          have HBK := Lib.hid (fun W hs => back_at g v bs a a' its[i] _ W hs (by rw [hcl.out]; exact hac) (by rw [hcl.out]; omega) HRF.out hrs HA2.out)
          have q1 : decide (c < a') = false := by simpa using hca
          have q2 : decide ((C : Int) % (N : Int) < (a' : Int)) = false := by rw [HHR.out]; simp; omega
          have HCA := Lib.hid hca
          clear hrs
          generalize its[i] = it at *
          clear hil hf HRF HA2 HTK HA HSP hca
          obtain ⟨ik, in_, ib, is_⟩ := it
          simp only [] at c0 c1 c2 c3
          generalize hq : ItA.right ⟨ik, in_, ib, is_⟩ = q at *
          clear hq
          simp only [ItA.cells] at HR2 HBK
          go_wp2_with (first
            | (go_at_call 33; refine (HR2.out _).mono ?_; rintro r w5 ⟨rfl, hc5⟩; have HT5 := Lib.hid (HT2.out.kept hc5); obtain ⟨ge2, hge, ce2⟩ := row_cell HT5.out.now.2.1 i _ (endsC_get its L i h); obtain rfl : ge = ge2 := (by simpa using hge); rw [HAn.out] at ce2; have hgl : ge < w5.heap.size := block_lt_of_cell ce2; clear hc5)
            | (go_at_call 37; refine (HBK.out _ (by exact (HT5.out.alloc _).now.1)).mono ?_; rintro r w6 ⟨rfl, ht6⟩; have HT6 := Lib.hid ((HT5.out.alloc _).trans (Turns.left (HT5.out.alloc _).now ht6)); obtain ⟨ge3, hge3, ce3⟩ := row_cell HT6.out.now.2.1 i _ (endsC_get its L i h); obtain rfl : ge = ge3 := (by simpa using hge3); rw [HAn.out] at ce3))
          go_roundw
          case rel => exact ⟨i + 1, a', by simp, by simp, by omega, by have := HCA.out; omega, HAn.out, HT6.out⟩
          case measure => simp [intOf]; omega
theorem bitsCuts_arg (v : Value) (cut : Int) (hc : (Lit.int .i64 cut).wf = true) (w : World) (h : ArgOk Try.prog w 23 v) : Calls Try.prog 9 #[v, .int .i64 cut] w fun e w' => e = .returned (.bool true) ∧ Below w.heap.size w w' := by
  obtain ⟨A, its, cap, rfl, hi, hl⟩ := items_open h
  simp [Lit.wf, IntKind.min, IntKind.max, IntKind.signed, IntKind.bits] at hc
  exact bitsCuts_any A its cap cut w hi hl (by omega) (by omega)
end Go.Proofs.Ytkpgdonpmfebaaa.Bt
