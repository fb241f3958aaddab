/- The law's helper read, kind by kind. -/
import Derived.Test.YtkpgdonpmfebaaaByR
import Derived.Deep.RegionHeld3
namespace Go.Proofs.Ytkpgdonpmfebaaa.Bt
open Go.RowKit Go.Hp
attribute [local go_sem] min2_lean min_two max2_lean max_two
set_option linter.unusedSimpArgs false
set_option linter.unusedVariables false
set_option maxRecDepth 100000
def RdOk (r x : RdS) (k n : Int) (w : World) (e : Ending) (w' : World) : Prop := e = .returned (.bool true) ∧ Turns w w' (rp r x) (rp (stp r k n) (stp x k n))
theorem rp_left {s x s' : RdS} {w W W' : World} {O : Hp.Own} (h : Turns w W O (rp s x)) (t : Turns W W' s.own s'.own) : Turns w W' O (Hp.Own.both s'.own x.xown) := h.trans (Turns.left h.now t)
theorem rp_right {s x x' : RdS} {w W W' : World} {O : Hp.Own} (h : Turns w W O (Hp.Own.both s.own x.xown)) (t : Turns W W' x.xown x'.xown) : Turns w W' O (Hp.Own.both s.own x'.xown) := h.trans (Turns.rightT h.now t)
theorem rp_l {s x : RdS} {w : World} (h : (rp s x).holds w) : s.own.holds w := h.1
theorem rp_r {s x : RdS} {w : World} (h : (rp s x).holds w) : x.xown.holds w := h.2.1
theorem read_num (r x : RdS) (n : Int) (b : Bool) (t : ByteArray) (gs : Nat) (w : World) (h : (rp r x).holds w) (ht : Tw r x) (hg : r.good) (hx : x.good) :
    Calls Try.prog 28 #[.pointer (some ⟨r.g, 0, none⟩), .pointer (some ⟨x.g, 0, none⟩), .agg (ItA.mk 1 n b t).cells, .pointer (some ⟨gs, 0, none⟩)] w (RdOk r x 1 n w) := by
  have HC := Lib.hid ((Turns.refl h).alloc (.cells #[.int .i64 1, .int .i64 n, .bool b, .string t] 36))
  have HH := Lib.hid h
  show Calls Try.prog 28 #[.pointer (some ⟨r.g, 0, none⟩), .pointer (some ⟨x.g, 0, none⟩), .agg #[.int .i64 1, .int .i64 n, .bool b, .string t], .pointer (some ⟨gs, 0, none⟩)] w _
  have HW := Lib.hid (fun W h => rnum_all r W h hg n)
  have HX := fun W h => xnum_any x W h hx n
  rw [((ht.num n)).1] at HX
  have HX := Lib.hid HX
  have e1 : stp r 1 n = (r.num n).2 := by unfold stp; simp
  have e2 : stp x 1 n = (x.num n).2 := by unfold stp; simp
  unfold RdOk
  rw [e1, e2]
  generalize (r.num n).1 = z at *
  generalize (r.num n).2 = r1 at *
  generalize (x.num n).2 = x1 at *
  clear h ht e1 e2 hg hx
  have HL := Lib.hid (rp_l HC.out.drew.now)
  go_enter Try.func28, Try.ntmps28
  go_wp2_with fail
  go_region_held3 (fun w' => w'.cell? ⟨w.heap.size, 1, none⟩ = some (.int .i64 n)) (go_keep)
    (first
      | (go_at_call 38; (with_reducible refine (HW.out _ HL.out).mono ?_); rintro q w1 ⟨rfl, ht1⟩; have HT1 := Lib.hid (rp_left HC.out.drew ht1); have q1 := (Blk.four (Blk.beside (rp_l HH.out) (Blk.new w #[.int .i64 1, .int .i64 n, .bool b, .string t] 36) (Nat.le_refl _) (ht1.drewl))).2.1; have ht1 := Lib.hid ht1; have HX1 := Lib.hid (show x.xown.holds w1 from HT1.out.now.2.1))
      | (go_at_call 71; (with_reducible refine (HX.out _ HX1.out).mono ?_); rintro q w2 ⟨rfl, ht2⟩; have HT2 := Lib.hid (rp_right HT1.out ht2); have q2 := (Blk.four (Blk.beside (rp_r HH.out) (Blk.beside (rp_l HH.out) (Blk.new w #[.int .i64 1, .int .i64 n, .bool b, .string t] 36) (Nat.le_refl _) (ht1.out.drewl)) (Nat.le_refl _) ht2)).2.1; clear ht2))
  all_goals
    go_wp2_with fail
    go_ret
    exact ⟨rfl, HT2.out⟩
theorem read_signed (r x : RdS) (n : Int) (b : Bool) (t : ByteArray) (gs : Nat) (w : World) (h : (rp r x).holds w) (ht : Tw r x) (hg : r.good) (hx : x.good) :
    Calls Try.prog 28 #[.pointer (some ⟨r.g, 0, none⟩), .pointer (some ⟨x.g, 0, none⟩), .agg (ItA.mk 2 n b t).cells, .pointer (some ⟨gs, 0, none⟩)] w (RdOk r x 2 n w) := by
  have HC := Lib.hid ((Turns.refl h).alloc (.cells #[.int .i64 2, .int .i64 n, .bool b, .string t] 36))
  have HH := Lib.hid h
  show Calls Try.prog 28 #[.pointer (some ⟨r.g, 0, none⟩), .pointer (some ⟨x.g, 0, none⟩), .agg #[.int .i64 2, .int .i64 n, .bool b, .string t], .pointer (some ⟨gs, 0, none⟩)] w _
  have HW := Lib.hid (fun W h => rsigned_all r W h hg)
  have HX := fun W h => xsigned_any x W h hx
  rw [((ht.signed)).1] at HX
  have HX := Lib.hid HX
  have e1 : stp r 2 n = (r.signed).2 := by unfold stp; simp
  have e2 : stp x 2 n = (x.signed).2 := by unfold stp; simp
  unfold RdOk
  rw [e1, e2]
  generalize (r.signed).1 = z at *
  generalize (r.signed).2 = r1 at *
  generalize (x.signed).2 = x1 at *
  clear h ht e1 e2 hg hx
  have HL := Lib.hid (rp_l HC.out.now)
  go_enter Try.func28, Try.ntmps28
  go_wp2_with (first
    | (go_at_call 62; (with_reducible refine (HW.out _ HL.out).mono ?_); rintro q w1 ⟨rfl, ht1⟩; have HT1 := Lib.hid (rp_left HC.out ht1); have q1 := (Blk.four (Blk.beside (rp_l HH.out) (Blk.new w #[.int .i64 2, .int .i64 n, .bool b, .string t] 36) (Nat.le_refl _) ht1)).2.1; have ht1 := Lib.hid ht1; have HX1 := Lib.hid (show x.xown.holds w1 from HT1.out.now.2.1))
    | (go_at_call 72; (with_reducible refine (HX.out _ HX1.out).mono ?_); rintro q w2 ⟨rfl, ht2⟩; have HT2 := Lib.hid (rp_right HT1.out ht2); have q2 := (Blk.four (Blk.beside (rp_r HH.out) (Blk.beside (rp_l HH.out) (Blk.new w #[.int .i64 2, .int .i64 n, .bool b, .string t] 36) (Nat.le_refl _) (ht1.out)) (Nat.le_refl _) ht2)).2.1; clear ht2))
  go_ret
  exact ⟨rfl, HT2.out⟩
theorem read_bool (r x : RdS) (n : Int) (b : Bool) (t : ByteArray) (gs : Nat) (w : World) (h : (rp r x).holds w) (ht : Tw r x) (hg : r.good) (hx : x.good) :
    Calls Try.prog 28 #[.pointer (some ⟨r.g, 0, none⟩), .pointer (some ⟨x.g, 0, none⟩), .agg (ItA.mk 3 n b t).cells, .pointer (some ⟨gs, 0, none⟩)] w (RdOk r x 3 n w) := by
  have HC := Lib.hid ((Turns.refl h).alloc (.cells #[.int .i64 3, .int .i64 n, .bool b, .string t] 36))
  have HH := Lib.hid h
  show Calls Try.prog 28 #[.pointer (some ⟨r.g, 0, none⟩), .pointer (some ⟨x.g, 0, none⟩), .agg #[.int .i64 3, .int .i64 n, .bool b, .string t], .pointer (some ⟨gs, 0, none⟩)] w _
  have HW := Lib.hid (fun W h => rbool_all r W h hg)
  have HX := fun W h => xbool_any x W h hx
  rw [((ht.bool)).1] at HX
  have HX := Lib.hid HX
  have e1 : stp r 3 n = (r.bool).2 := by unfold stp; simp
  have e2 : stp x 3 n = (x.bool).2 := by unfold stp; simp
  unfold RdOk
  rw [e1, e2]
  generalize (r.bool).1 = z at *
  generalize (r.bool).2 = r1 at *
  generalize (x.bool).2 = x1 at *
  clear h ht e1 e2 hg hx
  have HL := Lib.hid (rp_l HC.out.now)
  go_enter Try.func28, Try.ntmps28
  go_wp2_with (first
    | (go_at_call 73; (with_reducible refine (HW.out _ HL.out).mono ?_); rintro q w1 ⟨rfl, ht1⟩; have HT1 := Lib.hid (rp_left HC.out ht1); have q1 := (Blk.four (Blk.beside (rp_l HH.out) (Blk.new w #[.int .i64 3, .int .i64 n, .bool b, .string t] 36) (Nat.le_refl _) ht1)).2.1; have ht1 := Lib.hid ht1; have HX1 := Lib.hid (show x.xown.holds w1 from HT1.out.now.2.1))
    | (go_at_call 74; (with_reducible refine (HX.out _ HX1.out).mono ?_); rintro q w2 ⟨rfl, ht2⟩; have HT2 := Lib.hid (rp_right HT1.out ht2); have q2 := (Blk.four (Blk.beside (rp_r HH.out) (Blk.beside (rp_l HH.out) (Blk.new w #[.int .i64 3, .int .i64 n, .bool b, .string t] 36) (Nat.le_refl _) (ht1.out)) (Nat.le_refl _) ht2)).2.1; clear ht2))
  go_ret
  exact ⟨rfl, HT2.out⟩
theorem read_text (r x : RdS) (n : Int) (b : Bool) (t : ByteArray) (gs : Nat) (w : World) (h : (rp r x).holds w) (ht : Tw r x) (hg : r.good) (hx : x.good) :
    Calls Try.prog 28 #[.pointer (some ⟨r.g, 0, none⟩), .pointer (some ⟨x.g, 0, none⟩), .agg (ItA.mk 4 n b t).cells, .pointer (some ⟨gs, 0, none⟩)] w (RdOk r x 4 n w) := by
  have HC := Lib.hid ((Turns.refl h).alloc (.cells #[.int .i64 4, .int .i64 n, .bool b, .string t] 36))
  have HH := Lib.hid h
  show Calls Try.prog 28 #[.pointer (some ⟨r.g, 0, none⟩), .pointer (some ⟨x.g, 0, none⟩), .agg #[.int .i64 4, .int .i64 n, .bool b, .string t], .pointer (some ⟨gs, 0, none⟩)] w _
  have HW := Lib.hid (fun W h => rtext_all r W h hg n)
  have HX := fun W h => xtext_any x W h hx n
  rw [((ht.some n)).1] at HX
  have HX := Lib.hid HX
  have e1 : stp r 4 n = (r.some n).2 := by unfold stp; simp
  have e2 : stp x 4 n = (x.some n).2 := by unfold stp; simp
  unfold RdOk
  rw [e1, e2]
  generalize (r.some n).1 = z at *
  generalize (r.some n).2 = r1 at *
  generalize (x.some n).2 = x1 at *
  clear h ht e1 e2 hg hx
  have HL := Lib.hid (rp_l HC.out.drew.now)
  go_enter Try.func28, Try.ntmps28
  go_wp2_with fail
  go_region_held3 (fun w' => w'.cell? ⟨w.heap.size, 1, none⟩ = some (.int .i64 n)) (go_keep)
    (first
      | (go_at_call 75; (with_reducible refine (HW.out _ HL.out).mono ?_); rintro q w1 ⟨rfl, ht1⟩; have HT1 := Lib.hid (rp_left HC.out.drew ht1); have q1 := (Blk.four (Blk.beside (rp_l HH.out) (Blk.new w #[.int .i64 4, .int .i64 n, .bool b, .string t] 36) (Nat.le_refl _) (ht1.drewl))).2.1; have ht1 := Lib.hid ht1; have HX1 := Lib.hid (show x.xown.holds w1 from HT1.out.now.2.1))
      | (go_at_call 76; (with_reducible refine (HX.out _ HX1.out).mono ?_); rintro q w2 ⟨rfl, ht2⟩; have HT2 := Lib.hid (rp_right HT1.out ht2); have q2 := (Blk.four (Blk.beside (rp_r HH.out) (Blk.beside (rp_l HH.out) (Blk.new w #[.int .i64 4, .int .i64 n, .bool b, .string t] 36) (Nat.le_refl _) (ht1.out.drewl)) (Nat.le_refl _) ht2)).2.1; clear ht2))
  all_goals
    go_wp2_with fail
    go_ret
    exact ⟨rfl, HT2.out⟩
theorem read_close (r x : RdS) (n : Int) (b : Bool) (t : ByteArray) (gs : Nat) (w : World) (h : (rp r x).holds w) (ht : Tw r x) (hg : r.good) (hx : x.good) :
    Calls Try.prog 28 #[.pointer (some ⟨r.g, 0, none⟩), .pointer (some ⟨x.g, 0, none⟩), .agg (ItA.mk 9 n b t).cells, .pointer (some ⟨gs, 0, none⟩)] w (RdOk r x 9 n w) := by
  have HC := Lib.hid ((Turns.refl h).alloc (.cells #[.int .i64 9, .int .i64 n, .bool b, .string t] 36))
  have HH := Lib.hid h
  show Calls Try.prog 28 #[.pointer (some ⟨r.g, 0, none⟩), .pointer (some ⟨x.g, 0, none⟩), .agg #[.int .i64 9, .int .i64 n, .bool b, .string t], .pointer (some ⟨gs, 0, none⟩)] w _
  have HW := Lib.hid (fun W h => close_any r W h)
  have HX := fun W h => xclose_any x W h
  rw [(ht.closed).2.2] at HX
  have HX := Lib.hid HX
  have e1 : stp r 9 n = r.closed := by unfold stp; simp
  have e2 : stp x 9 n = x.closed := by unfold stp; simp
  unfold RdOk
  rw [e1, e2]
  generalize r.closed = r1 at *
  generalize x.closed = x1 at *
  generalize r1.e = z at *
  have HL := Lib.hid (rp_l HC.out.now)
  clear h ht e1 e2 hg hx
  go_enter Try.func28, Try.ntmps28
  go_wp2_with (first
    | (go_at_call 35; (with_reducible refine (HW.out _ HL.out).mono ?_); rintro q w1 ⟨rfl, ht1⟩; have HT1 := Lib.hid (rp_left HC.out ht1); clear ht1; have HX1 := Lib.hid (show x.xown.holds w1 from HT1.out.now.2.1))
    | (go_at_call 79; (with_reducible refine (HX.out _ HX1.out).mono ?_); rintro q w2 ⟨rfl, ht2⟩; have HT2 := Lib.hid (rp_right HT1.out ht2); clear ht2))
  go_ret
  exact ⟨rfl, HT2.out⟩
theorem read_err (r x : RdS) (n : Int) (b : Bool) (t : ByteArray) (gs : Nat) (w : World) (h : (rp r x).holds w) (ht : Tw r x) (hg : r.good) (hx : x.good) :
    Calls Try.prog 28 #[.pointer (some ⟨r.g, 0, none⟩), .pointer (some ⟨x.g, 0, none⟩), .agg (ItA.mk 8 n b t).cells, .pointer (some ⟨gs, 0, none⟩)] w (RdOk r x 8 n w) := by
  have HC := Lib.hid ((Turns.refl h).alloc (.cells #[.int .i64 8, .int .i64 n, .bool b, .string t] 36))
  have HH := Lib.hid h
  show Calls Try.prog 28 #[.pointer (some ⟨r.g, 0, none⟩), .pointer (some ⟨x.g, 0, none⟩), .agg #[.int .i64 8, .int .i64 n, .bool b, .string t], .pointer (some ⟨gs, 0, none⟩)] w _
  have HW := Lib.hid (fun W h => err_any r W h)
  have HX := fun W h => xerr_any x W h
  rw [ht.2.1, ht.2.2] at HX
  have HX := Lib.hid HX
  have e1 : stp r 8 n = r := by unfold stp; simp
  have e2 : stp x 8 n = x := by unfold stp; simp
  unfold RdOk
  rw [e1, e2]
  generalize r.e = z at *
  generalize r.at_ = za at *
  have HL := Lib.hid (rp_l HC.out.now)
  clear h ht e1 e2 hg hx
  go_enter Try.func28, Try.ntmps28
  go_wp2_with (first
    | (go_at_call 29; (with_reducible refine (HW.out _ HL.out).mono ?_); rintro q w1 ⟨rfl, m1, rfl⟩; have HT1 := Lib.hid (HC.out.drewN m1); have HX1 := Lib.hid (rp_r HT1.out.now))
    | (go_at_call 30; (with_reducible refine (HX.out _ HX1.out).mono ?_); rintro q w2 ⟨rfl, m2, rfl⟩; have HT2 := Lib.hid (HT1.out.drewN m2)))
  go_ret
  exact ⟨rfl, HC.out.drewN _⟩
theorem read_fail (r x : RdS) (n : Int) (b : Bool) (t : ByteArray) (gs : Nat) (w : World) (h : (rp r x).holds w) (ht : Tw r x) (hg : r.good) (hx : x.good) :
    Calls Try.prog 28 #[.pointer (some ⟨r.g, 0, none⟩), .pointer (some ⟨x.g, 0, none⟩), .agg (ItA.mk 7 n b t).cells, .pointer (some ⟨gs, 0, none⟩)] w (RdOk r x 7 n w) := by
  have HC := Lib.hid ((Turns.refl h).alloc (.cells #[.int .i64 7, .int .i64 n, .bool b, .string t] 36))
  have HH := Lib.hid h
  show Calls Try.prog 28 #[.pointer (some ⟨r.g, 0, none⟩), .pointer (some ⟨x.g, 0, none⟩), .agg #[.int .i64 7, .int .i64 n, .bool b, .string t], .pointer (some ⟨gs, 0, none⟩)] w _
  have HW := Lib.hid (fun W h => fail_any r n W h)
  have HX := Lib.hid (fun W h => xfail_any x W h n)
  have e1 : stp r 7 n = r.fail n := by unfold stp; simp
  have e2 : stp x 7 n = x.fail n := by unfold stp; simp
  unfold RdOk
  rw [e1, e2]
  change Hid (∀ W, r.own.holds W → Calls Try.prog 77 _ W fun q w' => _ ∧ Turns W w' r.own (r.fail n).own) at HW
  change Hid (∀ W, x.xown.holds W → Calls Try.prog 78 _ W fun q w' => _ ∧ Turns W w' x.xown (x.fail n).xown) at HX
  generalize r.fail n = r1 at *
  generalize x.fail n = x1 at *
  have HL := Lib.hid (rp_l HC.out.now)
  clear h ht e1 e2 hg hx
  go_enter Try.func28, Try.ntmps28
  go_wp2_with (first
    | (go_at_call 77; (with_reducible refine (HW.out _ HL.out).mono ?_); rintro q w1 ⟨rfl, ht1⟩; have HT1 := Lib.hid (rp_left HC.out ht1); have q1 := (Blk.four (Blk.beside (rp_l HH.out) (Blk.new w #[.int .i64 7, .int .i64 n, .bool b, .string t] 36) (Nat.le_refl _) ht1)).2.1; clear ht1; have HX1 := Lib.hid (show x.xown.holds w1 from HT1.out.now.2.1))
    | (go_at_call 78; (with_reducible refine (HX.out _ HX1.out).mono ?_); rintro q w2 ⟨rfl, ht2⟩; have HT2 := Lib.hid (rp_right HT1.out ht2); clear ht2))
  go_ret
  exact ⟨rfl, HT2.out⟩
theorem read_none (r x : RdS) (k n : Int) (b : Bool) (t : ByteArray) (gs : Nat) (w : World) (h : (rp r x).holds w) (hk : k < 1 ∨ k = 6 ∨ 9 < k) :
    Calls Try.prog 28 #[.pointer (some ⟨r.g, 0, none⟩), .pointer (some ⟨x.g, 0, none⟩), .agg (ItA.mk k n b t).cells, .pointer (some ⟨gs, 0, none⟩)] w (RdOk r x k n w) := by
  have HC := Lib.hid ((Turns.refl h).alloc (.cells #[.int .i64 k, .int .i64 n, .bool b, .string t] 36))
  have d1 : (k == 1) = false := by simp; omega
  have d2 : (k == 2) = false := by simp; omega
  have d3 : (k == 3) = false := by simp; omega
  have d4 : (k == 4) = false := by simp; omega
  have d5 : (k == 5) = false := by simp; omega
  have d7 : (k == 7) = false := by simp; omega
  have d8 : (k == 8) = false := by simp; omega
  have d9 : (k == 9) = false := by simp; omega
  have e0 : ∀ r, stp r k n = r := fun r => by
    unfold stp
    rw [if_neg (by omega), if_neg (by omega), if_neg (by omega), if_neg (by omega), if_neg (by omega), if_neg (by omega), if_neg (by omega)]
  unfold RdOk
  rw [e0, e0]
  show Calls Try.prog 28 #[.pointer (some ⟨r.g, 0, none⟩), .pointer (some ⟨x.g, 0, none⟩), .agg #[.int .i64 k, .int .i64 n, .bool b, .string t], .pointer (some ⟨gs, 0, none⟩)] w _
  clear h hk e0
  go_enter Try.func28, Try.ntmps28
  go_wp2_with fail
  go_ret
  exact ⟨rfl, HC.out⟩
/-- A list is laid aside: it reads as it did. -/
theorem Kb.keep_src (k : KS) (g N B M : Nat) (hM : N + 1 = M) (A : Option Addr) (n c : Nat) (xs : List Value) (w : World) (hk : Kb.Kn k g N B) (h : (Hp.Own.both (Kb.own k N 0) (Hp.Own.row 5 1 (.slice A n c) n xs)).holds w) (hg : Kb.Gd xs) (hn : n ≤ B) (hB : B ≤ 140737488351232) (hN : N ≤ 3518437208781) :
    Calls Try.prog 21 #[.pointer (some ⟨g, 0, none⟩), .slice A n c] w fun e w' => e = .returned (.tuple #[]) ∧ ∃ k', Kb.Kn k' g M B ∧ Turns w w' (Hp.Own.both (Kb.own k N 0) (Hp.Own.row 5 1 (.slice A n c) n xs)) (Kb.own k' M 0) ∧ Src w' (.slice A n c) n 1 xs := by
  subst hM
  obtain ⟨rfl, hx⟩ := hk
  refine (Kb.keep_any k N A n c xs w h hg (by omega) (by omega)).mono ?_
  rintro e w' ⟨rfl, ov, wv, y, ht⟩
  refine ⟨rfl, k.add N ov wv (.slice A n c) y n xs, ⟨rfl, fun i hi => ?_⟩, ht, ?_⟩
  · show Kb.Gd (if i = N then xs else k.xs i) ∧ (if i = N then n else k.len i) ≤ B
    by_cases h : i = N
    · rw [if_pos h, if_pos h]; exact ⟨hg, hn⟩
    · rw [if_neg h, if_neg h]; exact hx i (by omega)
  · have h9 := (KS.reads ht.now (Nat.zero_le _) (i := N) (by omega)).1
    have e1 : (k.add N ov wv (.slice A n c) y n xs).out N = .slice A n c := by simp [KS.add]
    have e2 : (k.add N ov wv (.slice A n c) y n xs).len N = n := by simp [KS.add]
    have e3 : (k.add N ov wv (.slice A n c) y n xs).xs N = xs := by simp [KS.add]
    rw [e1, e2, e3] at h9
    exact h9
theorem perm_in {A B R X S : Hp.Own} {w : World} (h : (Hp.Own.both (Hp.Own.both (Hp.Own.both A R) (Hp.Own.both B X)) S).holds w) :
    Turns w w (Hp.Own.both (Hp.Own.both (Hp.Own.both A R) (Hp.Own.both B X)) S) (Hp.Own.both (Hp.Own.both S A) (Hp.Own.both B (Hp.Own.both R X))) := by
  obtain ⟨⟨⟨hA, hR, d1⟩, ⟨hB, hX, d2⟩, d3⟩, hS, d4⟩ := h
  refine ⟨Chg.refl _ _, ⟨⟨hS, hA, fun b p q => d4 b (Or.inl (Or.inl q)) p⟩, ⟨hB, ⟨hR, hX, fun b p q => d3 b (Or.inr p) (Or.inr q)⟩, fun b p q => q.elim (fun q => d3 b (Or.inr q) (Or.inl p)) (fun q => d2 b p q)⟩, fun b p q => ?_⟩, fun b hb => Or.inl ?_⟩
  · rcases p with p | p <;> rcases q with q | q | q
    · exact d4 b (Or.inr (Or.inl q)) p
    · exact d4 b (Or.inl (Or.inr q)) p
    · exact d4 b (Or.inr (Or.inr q)) p
    · exact d3 b (Or.inl p) (Or.inl q)
    · exact d1 b p q
    · exact d3 b (Or.inl p) (Or.inr q)
  · rcases hb with (hb | hb) | hb | hb | hb
    · exact Or.inr hb
    · exact Or.inl (Or.inl (Or.inl hb))
    · exact Or.inl (Or.inr (Or.inl hb))
    · exact Or.inl (Or.inl (Or.inr hb))
    · exact Or.inl (Or.inr (Or.inr hb))
theorem perm_out {B P S : Hp.Own} {w : World} (h : (Hp.Own.both S (Hp.Own.both B P)).holds w) : Turns w w (Hp.Own.both S (Hp.Own.both B P)) (Hp.Own.both P S) := by
  obtain ⟨hS, ⟨hB, hP, d1⟩, d2⟩ := h
  exact ⟨Chg.refl _ _, ⟨hP, hS, fun b p q => d2 b q (Or.inr p)⟩, fun b hb => Or.inl (hb.elim (fun p => Or.inr (Or.inr p)) Or.inl)⟩
end Go.Proofs.Ytkpgdonpmfebaaa.Bt
