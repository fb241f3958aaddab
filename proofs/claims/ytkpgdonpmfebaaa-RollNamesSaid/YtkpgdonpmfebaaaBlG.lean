/- The reader's calls, whatever its state; one item read: got. -/
import Derived.Test.YtkpgdonpmfebaaaBlE
namespace Go.Proofs.Ytkpgdonpmfebaaa.Bt
open Go.RowKit Go.Hp
attribute [local go_sem] min2_lean min_two max2_lean max_two
set_option linter.unusedSimpArgs false
set_option linter.unusedVariables false
set_option maxRecDepth 100000
/-- A reader that may go on. -/
def RdS.good (r : RdS) : Prop := r.at_ ≤ r.bs.length ∧ r.bs.length ≤ 140737488355328
def RdS.num (r : RdS) (most : Int) : Int × RdS := if r.e = 0 then ((numOf most 13 r.bs r.at_).1, (ItS.mk 0 r (numOf most 13 r.bs r.at_).2.1 (numOf most 13 r.bs r.at_).2.2).ended) else (0, r)
def RdS.signed (r : RdS) : Int × RdS := if r.e = 0 then (if (gr 10 1 r.bs 10 0 0 r.at_).2.2 = 0 then uz (gr 10 1 r.bs 10 0 0 r.at_).1 else 0, (ItS.mk 0 r (gr 10 1 r.bs 10 0 0 r.at_).2.1 (gr 10 1 r.bs 10 0 0 r.at_).2.2).ended) else (0, r)
def RdS.bool (r : RdS) : Bool × RdS := if r.e = 0 then ((boolOf r.bs r.at_).1, (ItS.mk 0 r (boolOf r.bs r.at_).2.1 (boolOf r.bs r.at_).2.2).ended) else (false, r)
def RdS.some (r : RdS) (most : Int) : List UInt8 × RdS := if r.e = 0 then ((someOf most r.bs r.at_).1, (ItS.mk 0 r (someOf most r.bs r.at_).2.1 (someOf most r.bs r.at_).2.2).ended) else ([], r)
section
variable (r : RdS) (w : World) (hs : r.own.holds w) (hg : r.good)
include hs hg
theorem rnum_all (most : Int) : Calls Try.prog 38 #[.pointer (some ⟨r.g, 0, none⟩), .int .i64 most] w fun q w' => q = .returned (.int .i64 (r.num most).1) ∧ Turns w w' r.own (r.num most).2.own := by
  unfold RdS.num
  by_cases h : r.e = 0
  · rw [if_pos h]; exact rnum_ok r most w hs h hg.1 (by have := hg.2; omega)
  · rw [if_neg h]; exact rnum_err r most w hs (by simpa using h)
theorem rsigned_all : Calls Try.prog 62 #[.pointer (some ⟨r.g, 0, none⟩)] w fun q w' => q = .returned (.int .i64 r.signed.1) ∧ Turns w w' r.own r.signed.2.own := by
  unfold RdS.signed
  by_cases h : r.e = 0
  · rw [if_pos h]; exact rsigned_ok r w hs h hg.1 (by have := hg.2; omega)
  · rw [if_neg h]; exact rsigned_err r w hs (by simpa using h)
theorem rbool_all : Calls Try.prog 73 #[.pointer (some ⟨r.g, 0, none⟩)] w fun q w' => q = .returned (.bool r.bool.1) ∧ Turns w w' r.own r.bool.2.own := by
  unfold RdS.bool
  by_cases h : r.e = 0
  · rw [if_pos h]; exact rbool_ok r w hs h hg.1 (by have := hg.2; omega)
  · rw [if_neg h]; exact rbool_err r w hs (by simpa using h)
theorem rtext_all (most : Int) : Calls Try.prog 75 #[.pointer (some ⟨r.g, 0, none⟩), .int .i64 most] w fun q w' => q = .returned (.string ⟨(r.some most).1.toArray⟩) ∧ Turns w w' r.own (r.some most).2.own := by
  unfold RdS.some
  by_cases h : r.e = 0
  · rw [if_pos h]; exact rtext_ok r most w hs h hg.1 (by have := hg.2; omega)
  · rw [if_neg h]; exact rtext_err r most w hs (by simpa using h)
theorem rbytes_all (most : Int) : Calls Try.prog 31 #[.pointer (some ⟨r.g, 0, none⟩), .int .i64 most] w fun q w' => ∃ A c, q = .returned (.slice A (r.some most).1.length c) ∧
    Turns w w' r.own (Own.both (Own.row 5 1 (.slice A (r.some most).1.length c) (r.some most).1.length ((r.some most).1.map bv)) (r.some most).2.own) := by
  unfold RdS.some
  by_cases h : r.e = 0
  · rw [if_pos h]
    refine (rbytes_ok r most w hs h hg.1 (by have := hg.2; omega)).mono ?_
    rintro q w' ⟨o, rfl, ht, _⟩
    obtain ⟨A, c, rfl⟩ := row_slice ht.now.1
    exact ⟨A, c, rfl, ht⟩
  · rw [if_neg h]
    refine (rbytes_err r most w hs (by simpa using h)).mono ?_
    rintro q w' ⟨o, rfl, ht, _⟩
    obtain ⟨A, c, rfl⟩ := row_slice ht.now.1
    exact ⟨A, c, rfl, ht⟩
end
/-- One item read by its kind, without a bound. -/
def gotOf (r : RdS) (k : Int) : ItA × RdS :=
  if k = 1 then (⟨1, (r.num 9223372036854775807).1, false, ⟨#[]⟩⟩, (r.num 9223372036854775807).2)
  else if k = 2 then (⟨2, r.signed.1, false, ⟨#[]⟩⟩, r.signed.2)
  else if k = 3 then (⟨3, 0, r.bool.1, ⟨#[]⟩⟩, r.bool.2)
  else if k = 4 then (⟨4, 0, false, ⟨(r.some 9223372036854775807).1.toArray⟩⟩, (r.some 9223372036854775807).2)
  else (⟨5, 0, false, ⟨(r.some 9223372036854775807).1.toArray⟩⟩, (r.some 9223372036854775807).2)
theorem got_any (r : RdS) (k : Int) (w : World) (hs : r.own.holds w) (hg : r.good) (h1 : 1 ≤ k) (h2 : k ≤ 5) :
    Calls Try.prog 34 #[.pointer (some ⟨r.g, 0, none⟩), .int .i64 k] w fun q w' => q = .returned (.agg (gotOf r k).1.cells) ∧ Turns w w' r.own (gotOf r k).2.own := by
  obtain ⟨M, hM⟩ : ∃ M : Int, M = 9223372036854775807 := ⟨_, rfl⟩
  have HS := Lib.hid (Turns.refl hs)
  clear hs
  have hk : k = 1 ∨ k = 2 ∨ k = 3 ∨ k = 4 ∨ k = 5 := by omega
  clear h1 h2
  have HZ : Hid (Blk ((w.alloc (.cells #[.int .i64 0, .int .i64 0, .bool false, .string ⟨#[]⟩] 36)).alloc (.cells #[.int .i64 k, .int .i64 0, .bool false, .string ⟨#[]⟩] 36)) w.heap.size #[.int .i64 0, .int .i64 0, .bool false, .string ⟨#[]⟩] 36) := (Blk.new _ _ _).alloc _
  have HK : Hid (Blk ((w.alloc (.cells #[.int .i64 0, .int .i64 0, .bool false, .string ⟨#[]⟩] 36)).alloc (.cells #[.int .i64 k, .int .i64 0, .bool false, .string ⟨#[]⟩] 36)) (w.heap.size + 1) #[.int .i64 k, .int .i64 0, .bool false, .string ⟨#[]⟩] 36) := by
    have h := Blk.new (w.alloc (.cells #[.int .i64 0, .int .i64 0, .bool false, .string ⟨#[]⟩] 36)) #[.int .i64 k, .int .i64 0, .bool false, .string ⟨#[]⟩] 36
    rwa [show (w.alloc (.cells #[.int .i64 0, .int .i64 0, .bool false, .string ⟨#[]⟩] 36)).heap.size = w.heap.size + 1 by simp] at h
  rcases hk with rfl | rfl | rfl | rfl | rfl
  · have HC := fun W h => rnum_all r W h hg 9223372036854775807
    rw [show gotOf r 1 = (⟨1, (r.num 9223372036854775807).1, false, ⟨#[]⟩⟩, (r.num 9223372036854775807).2) from rfl]
    generalize (r.num 9223372036854775807) = G at *
    obtain ⟨n, r'⟩ := G
    have HCC := Lib.hid HC
    clear HC
    go_enter Try.func34, Try.ntmps34
    go_wp2_with (go_at_call 38; refine (HCC.out _ ((HS.out.alloc _).alloc _).now).mono ?_; rintro q w1 ⟨rfl, ht⟩; have HT := Lib.hid ht; obtain ⟨d0, d1, d2, d3, f0, f1, f2, f3⟩ := (Blk.beside HS.out.now HK.out (by omega) ht).four; obtain ⟨e0, e1, e2, e3, g0, g1, g2, g3⟩ := (Blk.beside HS.out.now HZ.out (by omega) ht).four; clear ht)
    refine bodyPost_ret (v := .agg #[.int .i64 1, .int .i64 n, .bool false, .string ⟨#[]⟩]) (by simp [results, Try.results34, go_sem, *]) rfl ⟨by rfl, ?_⟩
    exact Turns.boxes HS.out.now (((Chg.refl _ _).alloc _).alloc _) HT.out (by (repeat (first | (with_reducible exact Chg.refl _ _) | (with_reducible refine Chg.set ?_ (Or.inr ⟨by first | (simp; done) | (simp; omega), by first | (simp; done) | (simp; omega)⟩) _) | (with_reducible refine Chg.set ?_ (Or.inl (by simp)) _) | (with_reducible refine Chg.alloc ?_ _) | (with_reducible refine Chg.drew ?_) | (with_reducible refine Chg.drewN ?_ _))))
  · have HC := fun W h => rsigned_all r W h hg
    rw [show gotOf r 2 = (⟨2, r.signed.1, false, ⟨#[]⟩⟩, r.signed.2) from rfl]
    generalize r.signed = G at *
    obtain ⟨n, r'⟩ := G
    have HCC := Lib.hid HC
    clear HC
    go_enter Try.func34, Try.ntmps34
    go_wp2_with (go_at_call 62; refine (HCC.out _ ((HS.out.alloc _).alloc _).now).mono ?_; rintro q w1 ⟨rfl, ht⟩; have HT := Lib.hid ht; obtain ⟨d0, d1, d2, d3, f0, f1, f2, f3⟩ := (Blk.beside HS.out.now HK.out (by omega) ht).four; obtain ⟨e0, e1, e2, e3, g0, g1, g2, g3⟩ := (Blk.beside HS.out.now HZ.out (by omega) ht).four; clear ht)
    refine bodyPost_ret (v := .agg #[.int .i64 2, .int .i64 n, .bool false, .string ⟨#[]⟩]) (by simp [results, Try.results34, go_sem, *]) rfl ⟨by rfl, ?_⟩
    exact Turns.boxes HS.out.now (((Chg.refl _ _).alloc _).alloc _) HT.out (by (repeat (first | (with_reducible exact Chg.refl _ _) | (with_reducible refine Chg.set ?_ (Or.inr ⟨by first | (simp; done) | (simp; omega), by first | (simp; done) | (simp; omega)⟩) _) | (with_reducible refine Chg.set ?_ (Or.inl (by simp)) _) | (with_reducible refine Chg.alloc ?_ _) | (with_reducible refine Chg.drew ?_) | (with_reducible refine Chg.drewN ?_ _))))
  · have HC := fun W h => rbool_all r W h hg
    rw [show gotOf r 3 = (⟨3, 0, r.bool.1, ⟨#[]⟩⟩, r.bool.2) from rfl]
    generalize r.bool = G at *
    obtain ⟨n, r'⟩ := G
    have HCC := Lib.hid HC
    clear HC
    go_enter Try.func34, Try.ntmps34
    go_wp2_with (go_at_call 73; refine (HCC.out _ ((HS.out.alloc _).alloc _).now).mono ?_; rintro q w1 ⟨rfl, ht⟩; have HT := Lib.hid ht; obtain ⟨d0, d1, d2, d3, f0, f1, f2, f3⟩ := (Blk.beside HS.out.now HK.out (by omega) ht).four; obtain ⟨e0, e1, e2, e3, g0, g1, g2, g3⟩ := (Blk.beside HS.out.now HZ.out (by omega) ht).four; clear ht)
    refine bodyPost_ret (v := .agg #[.int .i64 3, .int .i64 0, .bool n, .string ⟨#[]⟩]) (by simp [results, Try.results34, go_sem, *]) rfl ⟨by rfl, ?_⟩
    exact Turns.boxes HS.out.now (((Chg.refl _ _).alloc _).alloc _) HT.out (by (repeat (first | (with_reducible exact Chg.refl _ _) | (with_reducible refine Chg.set ?_ (Or.inr ⟨by first | (simp; done) | (simp; omega), by first | (simp; done) | (simp; omega)⟩) _) | (with_reducible refine Chg.set ?_ (Or.inl (by simp)) _) | (with_reducible refine Chg.alloc ?_ _) | (with_reducible refine Chg.drew ?_) | (with_reducible refine Chg.drewN ?_ _))))
  · have HC := fun W h => rtext_all r W h hg 9223372036854775807
    rw [show gotOf r 4 = (⟨4, 0, false, ⟨((r.some 9223372036854775807).1).toArray⟩⟩, (r.some 9223372036854775807).2) from rfl]
    generalize (r.some 9223372036854775807) = G at *
    obtain ⟨n, r'⟩ := G
    have HCC := Lib.hid HC
    clear HC
    go_enter Try.func34, Try.ntmps34
    go_wp2_with (go_at_call 75; refine (HCC.out _ ((HS.out.alloc _).alloc _).now).mono ?_; rintro q w1 ⟨rfl, ht⟩; have HT := Lib.hid ht; obtain ⟨d0, d1, d2, d3, f0, f1, f2, f3⟩ := (Blk.beside HS.out.now HK.out (by omega) ht).four; obtain ⟨e0, e1, e2, e3, g0, g1, g2, g3⟩ := (Blk.beside HS.out.now HZ.out (by omega) ht).four; clear ht)
    refine bodyPost_ret (v := .agg #[.int .i64 4, .int .i64 0, .bool false, .string ⟨n.toArray⟩]) (by simp [results, Try.results34, go_sem, *]) rfl ⟨by rfl, ?_⟩
    exact Turns.boxes HS.out.now (((Chg.refl _ _).alloc _).alloc _) HT.out (by (repeat (first | (with_reducible exact Chg.refl _ _) | (with_reducible refine Chg.set ?_ (Or.inr ⟨by first | (simp; done) | (simp; omega), by first | (simp; done) | (simp; omega)⟩) _) | (with_reducible refine Chg.set ?_ (Or.inl (by simp)) _) | (with_reducible refine Chg.alloc ?_ _) | (with_reducible refine Chg.drew ?_) | (with_reducible refine Chg.drewN ?_ _))))
  · have HC := fun W h => rbytes_all r W h hg 9223372036854775807
    rw [show gotOf r 5 = (⟨5, 0, false, ⟨((r.some 9223372036854775807).1).toArray⟩⟩, (r.some 9223372036854775807).2) from rfl]
    generalize (r.some 9223372036854775807) = G at *
    obtain ⟨n, r'⟩ := G
    have HCC := Lib.hid HC
    clear HC
    go_enter Try.func34, Try.ntmps34
    go_wp2_with (go_at_call 31; refine (HCC.out _ ((HS.out.alloc _).alloc _).now).mono ?_; rintro q w1 ⟨A, c, rfl, ht0⟩; have hcv := conv_src w1 _ n (Src.of_own ht0.now.1); have ht := ht0.dropL; clear ht0; have HT := Lib.hid ht; obtain ⟨d0, d1, d2, d3, f0, f1, f2, f3⟩ := (Blk.beside HS.out.now HK.out (by omega) ht).four; obtain ⟨e0, e1, e2, e3, g0, g1, g2, g3⟩ := (Blk.beside HS.out.now HZ.out (by omega) ht).four; clear ht)
    refine bodyPost_ret (v := .agg #[.int .i64 5, .int .i64 0, .bool false, .string ⟨n.toArray⟩]) (by simp [results, Try.results34, go_sem, *]) rfl ⟨by rfl, ?_⟩
    exact Turns.boxes HS.out.now (((Chg.refl _ _).alloc _).alloc _) HT.out (by (repeat (first | (with_reducible exact Chg.refl _ _) | (with_reducible refine Chg.set ?_ (Or.inr ⟨by first | (simp; done) | (simp; omega), by first | (simp; done) | (simp; omega)⟩) _) | (with_reducible refine Chg.set ?_ (Or.inl (by simp)) _) | (with_reducible refine Chg.alloc ?_ _) | (with_reducible refine Chg.drew ?_) | (with_reducible refine Chg.drewN ?_ _))))
end Go.Proofs.Ytkpgdonpmfebaaa.Bt
