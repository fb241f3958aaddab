/- The reader of package bits: its last methods. -/
import Derived.Test.YtkpgdonpmfebaaaBrT
import Derived.Laws.CopyOwn
import Derived.Lib.BufferRead
import Derived.Test.YtkpgdonpmfebaaaBtW3
import Derived.Lib.Zigzag
import Derived.Laws.IdiomStrings
namespace Go.Proofs.Ytkpgdonpmfebaaa.Bt
open Go.RowKit Go.Hp
attribute [local go_sem] min2_lean min_two max2_lean max_two
set_option linter.unusedSimpArgs false
set_option linter.unusedVariables false
set_option maxRecDepth 100000

theorem block_lt_of_cell {w : World} {p : Addr} {u : Value} (h : w.cell? p = some u) : p.block < w.heap.size := by
  rcases Nat.lt_or_ge p.block w.heap.size with hlt | hge
  · exact hlt
  · have : w.heap[p.block]? = none := Array.getElem?_eq_none hge
    simp [World.cell?, this] at h
theorem Src.keep {w w' : World} {x : Value} {n size : Nat} {cs : List Value} (h : Src w x n size cs) (hc : Chg (fun _ => False) w w') : Src w' x n size cs := by
  refine ⟨h.1, ?_⟩
  rcases h.2 with h | ⟨ad, c, rfl, hcell⟩
  · exact Or.inl h
  · exact Or.inr ⟨ad, c, rfl, fun j u hu => (hc.cell (block_lt_of_cell (hcell j u hu)) (fun h => h)).trans (hcell j u hu)⟩
theorem fail_any (r : RdS) (c : Int) (w : World) (hs : r.own.holds w) :
    Calls Try.prog 77 #[.pointer (some ⟨r.g, 0, none⟩), .int .i64 c] w fun q w' => q = .returned (.tuple #[]) ∧ Turns w w' r.own (if r.e = 0 then { r with e := c } else r : RdS).own := by
  obtain ⟨d0, d1, d2, g1, g2⟩ := RdS.cells hs
  have HS := Lib.hid hs
  clear hs
  by_cases h : r.e = 0
  · rw [if_pos h]
    rw [h] at d2
    go_enter Try.func77, Try.ntmps77
    go_wp2
    go_end0
    exact ⟨rfl, RdS.setE HS.out c⟩
  · rw [if_neg h]
    have hd : (r.e == 0) = false := by simpa using h
    go_enter Try.func77, Try.ntmps77
    go_wp2
    go_end0
    exact ⟨rfl, Turns.refl HS.out⟩
theorem err_any (r : RdS) (w : World) (hs : r.own.holds w) :
    Calls Try.prog 29 #[.pointer (some ⟨r.g, 0, none⟩)] w fun q w' => q = .returned (.tuple #[.int .i64 r.e, .int .i64 r.at_]) ∧ ∃ n, w.drewN n = w' := by
  obtain ⟨d0, d1, d2, g1, g2⟩ := RdS.cells hs
  clear hs
  go_enter Try.func29, Try.ntmps29
  go_wp2
  go_quiet (fail)
  go_wp2
  go_ret2
  exact ⟨rfl, _, rfl⟩
/-- What 'Close' leaves. -/
def RdS.closed (r : RdS) : RdS := if r.at_ < r.bs.length then (if r.e = 0 then { r with e := 15 } else r) else r
theorem close_any (r : RdS) (w : World) (hs : r.own.holds w) :
    Calls Try.prog 35 #[.pointer (some ⟨r.g, 0, none⟩)] w fun q w' => q = .returned (.int .i64 r.closed.e) ∧ Turns w w' r.own r.closed.own := by
  obtain ⟨d0, d1, d2, g1, g2⟩ := RdS.cells hs
  obtain ⟨A, c, hf⟩ := RdS.form hs
  rw [hf] at d0
  have HS := Lib.hid hs
  clear hs
  by_cases h : r.at_ < r.bs.length
  · have hd : decide ((r.at_ : Int) < (r.bs.length : Int)) = true := by simp; omega
    have hd' : decide (r.at_ < r.bs.length) = true := by simpa using h
    have hF : r.closed = if r.e = 0 then { r with e := 15 } else r := by rw [RdS.closed, if_pos h]
    have HF := Lib.hid hF
    generalize r.closed = F at *
    have hg : F.g = r.g := by rw [hF]; split <;> rfl
    clear hF
    go_enter Try.func35, Try.ntmps35
    go_wp2
    go_quiet (fail)
    go_wp2_with (go_at_call 77; refine (fail_any r 15 _ (by exact ((Turns.refl HS.out).drewN nq).now)).mono ?_; rintro q w2 ⟨rfl, ht⟩; rw [← HF.out] at ht; have HT := Lib.hid (((Turns.refl HS.out).drewN nq).trans ht); have k2 := (RdS.cells ht.now).2.2.1; rw [hg] at k2; clear ht)
    go_ret
    exact ⟨rfl, HT.out⟩
  · have hd : decide ((r.at_ : Int) < (r.bs.length : Int)) = false := by simp; omega
    have hd' : decide (r.at_ < r.bs.length) = false := by simpa using h
    have hF : r.closed = r := by rw [RdS.closed, if_neg h]
    rw [hF]
    go_enter Try.func35, Try.ntmps35
    go_wp2
    go_quiet (fail)
    go_wp2
    go_ret
    exact ⟨rfl, (Turns.refl HS.out).drewN _⟩
theorem newR_any (A : Option Addr) (c : Nat) (bs : List UInt8) (w : World) (hx : Src w (.slice A bs.length c) bs.length 1 (bs.map bv)) (hl : bs.length ≤ 140737488355328) :
    Calls Try.prog 25 #[.slice A bs.length c] w fun q w' => ∃ g, q = .returned (.pointer (some ⟨g, 0, none⟩)) ∧ Turns w w' Own.emp (RdS.mk g (.slice (some ⟨w.heap.size, 0, none⟩) bs.length bs.length) bs 0 0).own := by
  obtain ⟨i0, hi0, hz0, hz1, hz2⟩ := info_parts Try.info5
  have HX := Lib.hid hx
  clear hx
  obtain ⟨m, hm⟩ : ∃ m, bs.length = m := ⟨_, rfl⟩
  have HM := Lib.hid hm
  rw [hm]
  rw [hm] at HX hl
  clear hm
  go_enter Try.func25, Try.ntmps25
  go_wp2_with (first
    | (at_make; refine wpList_make_full _ rfl _ _ 38 rfl 0 5 i0 (.int .u8 0) 1 Try.underlying38 hi0 hz0 hz1 .i64 .i64 m m m rfl rfl rfl rfl (by rw [hz2]; omega) (by simp only [maxLen]; omega) (Nat.zero_le _) ?_; intro w1 ho1 hg1; have HM1 := Lib.hid (Turns.made ho1 hg1); have HO1 := Lib.hid ho1; clear ho1 hg1)
    | (refine wpList_copy_all _ rfl (.tmp 7) (.tmp 8) 38 38 rfl 5 Try.underlying38 (by rw [hi0]; simp [hz1]) _ 0 m _ rfl HO1.out _ (bs.map bv) rfl (Src.keep HX.out (HM1.out.chg.mono (fun _ _ h => h))) (by simp [bv, Value.oneCell']) ?_; intro w2 ho2 hg2; have HT2 := Lib.hid (HM1.out.trans (Turns.row ho2 hg2 (Or.inl rfl))); clear ho2 hg2))
  go_ret
  refine ⟨_, rfl, ?_⟩
  have h := HT2.out.trans (Turns.newl HT2.out.now #[.slice (some ⟨w.heap.size, 0, none⟩) m m, .int .i64 0, .int .i64 0] 111)
  show Turns _ _ _ (Own.both (Own.blk _ #[_, _, _] 111) (Own.row 5 1 _ bs.length _))
  rw [HM.out]
  exact h
theorem Turns.addl {w w' : World} {O A : Own} (h : O.holds w) (t : Turns w w' Own.emp A) : Turns w w' O (Own.both A O) :=
  ⟨t.chg.mono fun _ _ hf => hf.elim, ⟨t.now, Own.chg h t.chg (fun _ _ hf => hf), fun b h1 h2 => (t.near b h1).elim (fun hf => hf) (fun hge => by have := O.lt h b h2; omega)⟩,
    fun b hb => hb.elim (fun h1 => (t.near b h1).elim (fun hf => hf.elim) Or.inr) Or.inl⟩
theorem Turns.right {w w' : World} {A O O' : Own} (h : (Own.both A O).holds w) (t : Turns w w' O O') : Turns w w' (Own.both A O) (Own.both A O') :=
  ⟨t.chg.mono fun _ _ hf => Or.inr hf, ⟨Own.chg h.1 t.chg (fun b h1 h2 => h.2.2 b h1 h2), t.now, fun b h1 h2 => (t.near b h2).elim (fun hf => h.2.2 b h1 hf) (fun hge => by have := A.lt h.1 b h1; omega)⟩,
    fun b hb => hb.elim (fun h1 => Or.inl (Or.inl h1)) (fun h2 => (t.near b h2).elim (fun hf => Or.inl (Or.inr hf)) Or.inr)⟩
theorem someOf_len (most : Int) (bs : List UInt8) (a : Nat) : (someOf most bs a).1.length ≤ bs.length := by
  unfold someOf
  simp only []
  split
  · split
    · simp
    · simp only [List.length_take, List.length_drop]; omega
  · simp
theorem rbytes_ok (r : RdS) (most : Int) (w : World) (hs : r.own.holds w) (he : r.e = 0) (ha : r.at_ ≤ r.bs.length) (hl : r.bs.length ≤ 140737488355328) :
    Calls Try.prog 31 #[.pointer (some ⟨r.g, 0, none⟩), .int .i64 most] w fun q w' => ∃ o,
      q = .returned o ∧ Turns w w' r.own (Own.both (Own.row 5 1 o (someOf most r.bs r.at_).1.length ((someOf most r.bs r.at_).1.map bv)) (ItS.mk 0 r (someOf most r.bs r.at_).2.1 (someOf most r.bs r.at_).2.2).ended.own) ∧ ∃ b, o.ownBlock = some b ∧ w.heap.size ≤ b := by
  have HB := Lib.hid (begin_any r w hs)
  clear hs
  have HO : Hid (∀ x w1, (ItS.mk x r r.at_ r.e).own.holds w1 → Calls Try.prog 81 #[.pointer (some ⟨x, 0, none⟩), .int .i64 most] w1 fun q w' => ∃ v, q = .returned v ∧
      Src w' v (someOf most r.bs r.at_).1.length 1 ((someOf most r.bs r.at_).1.map bv) ∧ Turns w1 w' (ItS.mk x r r.at_ r.e).own (ItS.mk x r (someOf most r.bs r.at_).2.1 (someOf most r.bs r.at_).2.2).own) :=
    fun x w1 h => some_ok (ItS.mk x r r.at_ r.e) most w1 h he ha (by simp only []; omega)
  have hsl := someOf_len most r.bs r.at_
  generalize someOf most r.bs r.at_ = G at *
  obtain ⟨l, a, e⟩ := G
  simp only [] at HO hsl ⊢
  generalize hF : (ItS.mk 0 r a e).ended = F
  have HF := Lib.hid hF
  clear hF
  obtain ⟨i0, hi0, hz0, hz1, hz2⟩ := info_parts Try.info5
  obtain ⟨m, hm⟩ : ∃ m, l.length = m := ⟨_, rfl⟩
  have HM := Lib.hid hm
  rw [hm] at HO ⊢
  have hml : m ≤ 140737488355328 := by omega
  clear hm
  go_enter_defers Try.func31, Try.ntmps31
  go_wp2_with (first
    | (go_at_call 80; refine HB.out.mono ?_; rintro q w1 ⟨x, rfl, ht1⟩; have HT1 := Lib.hid ht1; clear ht1)
    | (go_at_call 81; refine (HO.out x _ HT1.out.now).mono ?_; rintro q w2 ⟨v, rfl, hv, ht2⟩; have HT2 := Lib.hid ht2; have HV := Lib.hid hv; obtain ⟨A, c, rfl⟩ := hv.len; clear ht2 hv)
    | (at_make; refine wpList_make_full _ rfl _ _ 38 rfl 0 5 i0 (.int .u8 0) 1 Try.underlying38 hi0 hz0 hz1 .i64 .i64 m m m rfl rfl rfl rfl (by rw [hz2]; omega) (by simp only [maxLen]; omega) (Nat.zero_le _) ?_; intro w3 ho1 hg1; have HM1 := Lib.hid (Turns.made ho1 hg1); have HO1 := Lib.hid ho1; clear ho1 hg1)
    | (refine wpList_copy_all _ rfl (.tmp 21) (.tmp 22) 38 38 rfl 5 Try.underlying38 (by rw [hi0]; simp [hz1]) _ 0 m _ rfl HO1.out _ (l.map bv) rfl (Src.keep HV.out (HM1.out.chg.mono (fun _ _ h => h))) (by simp [bv, Value.oneCell']) ?_; intro w4 ho2 hg2; have HT4 := Lib.hid (HM1.out.trans (Turns.row ho2 hg2 (Or.inl rfl))); clear ho2 hg2))
  have H4 := HT4.out
  have hn := HT2.out.now
  refine leaves_cons (f := 100) (args := #[.pointer (some ⟨x, 0, none⟩)]) (by simp) (by simp [go_sem]) ?_
  refine (end_any (ItS.mk x r a e) _ (Own.chg hn H4.chg (fun _ _ h => h)) .returning).mono ?_
  rintro e1 u' w'' ⟨rfl, rfl, ht3⟩
  have T12 := HT1.out.trans HT2.out
  have T24 := Turns.addl hn H4
  refine ⟨_, results_tmp rfl _ _ _, _, rfl, ?_, _, rfl, T12.chg.size⟩
  rw [← HF.out]
  exact (T12.trans T24).trans (Turns.right T24.now ht3)
theorem rbytes_err (r : RdS) (most : Int) (w : World) (hs : r.own.holds w) (he : (r.e == 0) = false) :
    Calls Try.prog 31 #[.pointer (some ⟨r.g, 0, none⟩), .int .i64 most] w fun q w' => ∃ o, q = .returned o ∧ Turns w w' r.own (Own.both (Own.row 5 1 o 0 []) r.own) ∧ ∃ b, o.ownBlock = some b ∧ w.heap.size ≤ b := by
  have HB := Lib.hid (begin_any r w hs)
  clear hs
  obtain ⟨i0, hi0, hz0, hz1, hz2⟩ := info_parts Try.info5
  go_enter_defers Try.func31, Try.ntmps31
  go_wp2_with (first
    | (go_at_call 80; refine HB.out.mono ?_; rintro q w1 ⟨x, rfl, ht1⟩; have HT1 := Lib.hid ht1; clear ht1)
    | (go_at_call 81; refine (some_err (ItS.mk x r r.at_ r.e) most _ HT1.out.now he).mono ?_; rintro q w2 ⟨rfl, n, rfl⟩)
    | (at_make; refine wpList_make_full _ rfl _ _ 38 rfl 0 5 i0 (.int .u8 0) 1 Try.underlying38 hi0 hz0 hz1 .i64 .i64 0 0 0 rfl rfl rfl rfl (by rw [hz2]; omega) (by simp only [maxLen]; omega) (Nat.zero_le _) ?_; intro w3 ho1 hg1; have HM1 := Lib.hid (Turns.made ho1 hg1); have HO1 := Lib.hid ho1; clear ho1 hg1)
    | (refine wpList_copy_all _ rfl (.tmp 21) (.tmp 22) 38 38 rfl 5 Try.underlying38 (by rw [hi0]; simp [hz1]) _ 0 0 _ rfl HO1.out _ [] rfl ⟨rfl, Or.inl ⟨0, rfl, rfl⟩⟩ (by simp [bv, Value.oneCell']) ?_; intro w4 ho2 hg2; have HT4 := Lib.hid (HM1.out.trans (Turns.row ho2 hg2 (Or.inl rfl))); clear ho2 hg2))
  have H4 := HT4.out
  have hn := (HT1.out.drewN n).now
  refine leaves_cons (f := 100) (args := #[.pointer (some ⟨x, 0, none⟩)]) (by simp) (by simp [go_sem]) ?_
  refine (end_any (ItS.mk x r r.at_ r.e) _ (Own.chg hn H4.chg (fun _ _ h => h)) .returning).mono ?_
  rintro e1 u' w'' ⟨rfl, rfl, ht3⟩
  have hF : (ItS.mk x r r.at_ r.e).ended = r := by rw [ItS.ended, if_neg (by simpa using he)]
  rw [hF] at ht3
  have T12 := HT1.out.drewN n
  have T24 := Turns.addl hn H4
  refine ⟨_, results_tmp rfl _ _ _, _, rfl, ?_, _, rfl, T12.chg.size⟩
  exact (T12.trans T24).trans (Turns.right T24.now ht3)
end Go.Proofs.Ytkpgdonpmfebaaa.Bt
