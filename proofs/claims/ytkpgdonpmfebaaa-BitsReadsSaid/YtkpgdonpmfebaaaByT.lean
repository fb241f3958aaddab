/- The law's helper read: bytes that are kept; any step. -/
import Derived.Test.YtkpgdonpmfebaaaByS
import Derived.Test.YtkpgdonpmfebaaaBwL
namespace Go.Proofs.Ytkpgdonpmfebaaa.Bt
open Go.RowKit Go.Hp
attribute [local go_sem] min2_lean min_two max2_lean max_two
set_option linter.unusedSimpArgs false
set_option linter.unusedVariables false
set_option maxRecDepth 100000
theorem some_len (r : RdS) (n : Int) : (r.some n).1.length ≤ r.bs.length := by
  unfold RdS.some
  split
  · exact someOf_len _ _ _
  · simp
def RdAll (r x : RdS) (k n : Int) (gs N B : Nat) (kk : KS) (w : World) (e : Ending) (w' : World) : Prop :=
  e = .returned (.bool true) ∧ ∃ k' N', N' ≤ N + 1 ∧ Kb.Kn k' gs N' B ∧ Turns w w' (Hp.Own.both (rp r x) (Kb.own kk N 0)) (Hp.Own.both (rp (stp r k n) (stp x k n)) (Kb.own k' N' 0))
theorem rs_r {r x : RdS} {S R' : Hp.Own} {w W W' : World} {O : Hp.Own} (h : Turns w W O (Hp.Own.both (rp r x) S)) (t : Turns W W' r.own R') : Turns w W' O (Hp.Own.both (Hp.Own.both R' x.xown) S) := h.trans (Turns.left h.now (Turns.left h.now.1 t))
theorem rs_x {x : RdS} {S R X' : Hp.Own} {w W W' : World} {O : Hp.Own} (h : Turns w W O (Hp.Own.both (Hp.Own.both R x.xown) S)) (t : Turns W W' x.xown X') : Turns w W' O (Hp.Own.both (Hp.Own.both R X') S) := h.trans (Turns.left h.now (Turns.rightT h.now.1 t))
theorem rs_in {A B R X S : Hp.Own} {w W : World} {O : Hp.Own} (h : Turns w W O (Hp.Own.both (Hp.Own.both (Hp.Own.both A R) (Hp.Own.both B X)) S)) : Turns w W O (Hp.Own.both (Hp.Own.both S A) (Hp.Own.both B (Hp.Own.both R X))) := h.trans (perm_in h.now)
theorem rs_out {B P S : Hp.Own} {w W : World} {O : Hp.Own} (h : Turns w W O (Hp.Own.both S (Hp.Own.both B P))) : Turns w W O (Hp.Own.both P S) := h.trans (perm_out h.now)
theorem read_bytes (r x : RdS) (n : Int) (b : Bool) (t : ByteArray) (gs N B : Nat) (kk : KS) (w : World) (h : (Hp.Own.both (rp r x) (Kb.own kk N 0)).holds w) (ht : Tw r x) (hg : r.good) (hx : x.good) (hk : Kb.Kn kk gs N B) (hl : r.bs.length ≤ B) (hB : B ≤ 140737488351232) (hN : N ≤ 3518437208781) :
    Calls Try.prog 28 #[.pointer (some ⟨r.g, 0, none⟩), .pointer (some ⟨x.g, 0, none⟩), .agg (ItA.mk 5 n b t).cells, .pointer (some ⟨gs, 0, none⟩)] w (RdAll r x 5 n gs N B kk w) := by
  have HC := Lib.hid ((Turns.refl h).alloc (.cells #[.int .i64 5, .int .i64 n, .bool b, .string t] 36))
  have HH := Lib.hid h
  have HK := Lib.hid hk
  have HW := fun W h => rbytes_all r W h hg n
  have HX := fun W h => xbytes_any x W h hx n
  rw [(ht.some n).1] at HX
  have hsl := some_len r n
  have e1 : stp r 5 n = (r.some n).2 := by unfold stp; simp
  have e2 : stp x 5 n = (x.some n).2 := by unfold stp; simp
  unfold RdAll
  rw [e1, e2]
  generalize (r.some n).1 = z at *
  generalize (r.some n).2 = r1 at *
  generalize (x.some n).2 = x1 at *
  obtain ⟨m, hm⟩ : ∃ m, z.length = m := ⟨_, rfl⟩
  rw [hm] at HW HX hsl
  have hmB : m ≤ B := by omega
  have HW := Lib.hid HW
  have HX := Lib.hid HX
  have HL := Lib.hid (rp_l HC.out.now.1)
  have HGD := Lib.hid (gd_bv z)
  have HKS := Lib.hid (fun k' A c W h1 h2 h3 => Kb.keep_src k' gs N B (N + 1) rfl A m c (z.map bv) W h1 h2 h3 hmB hB hN)
  have HSM := Lib.hid (fun A1 c1 B1 d1 W h1 h2 => Kb.same_src A1 B1 m c1 d1 (z.map bv) W h1 h2 HGD.out (by omega))
  show Calls Try.prog 28 #[.pointer (some ⟨r.g, 0, none⟩), .pointer (some ⟨x.g, 0, none⟩), .agg #[.int .i64 5, .int .i64 n, .bool b, .string t], .pointer (some ⟨gs, 0, none⟩)] w _
  clear h ht e1 e2 hg hx hk hl hB hN hm hsl hmB
  go_enter Try.func28, Try.ntmps28
  go_wp2_with (first
    | (go_at_call 31; (with_reducible refine (HW.out _ HL.out).mono ?_); rintro q w1 ⟨A1, c1, rfl, ht1⟩; have HT1 := Lib.hid (rs_r HC.out ht1); have q1 := (Blk.four (Blk.beside (rp_l HH.out.1) (Blk.new w #[.int .i64 5, .int .i64 n, .bool b, .string t] 36) (Nat.le_refl _) ht1)).2.1; clear ht1; have HX1 := Lib.hid (show x.xown.holds w1 from HT1.out.now.1.2.1))
    | (go_at_call 32; (with_reducible refine (HX.out _ HX1.out).mono ?_); rintro q w2 ⟨A2, c2, rfl, ht2⟩; have HT2 := Lib.hid (rs_in (rs_x HT1.out ht2)); clear ht2; have HSA := Lib.hid (show (Hp.Own.both (Kb.own kk N 0) (Hp.Own.row 5 1 (.slice A1 m c1) m (z.map bv))).holds w2 from HT2.out.now.1))
    | (go_at_call 21; (with_reducible refine (HKS.out kk A1 c1 _ HK.out HSA.out HGD.out).mono ?_); rintro q w3 ⟨rfl, k3, hk3, ht3, hs3⟩; have HK3 := Lib.hid hk3; have HS3 := Lib.hid hs3; have HT3 := Lib.hid (HT2.out.trans (Turns.left HT2.out.now ht3)); clear hk3 hs3 ht3; have HSB := Lib.hid (Src.of_own (show w3.ownsRow 0 5 1 (.slice A2 m c2) m (z.map bv) from HT3.out.now.2.1.1)))
    | (go_at_call 20; (with_reducible refine (HSM.out A1 c1 A2 c2 _ HS3.out HSB.out).mono ?_); rintro q w4 ⟨rfl, q4, rfl⟩; have HT4 := Lib.hid (rs_out (HT3.out.drewN q4))))
  go_ret
  exact ⟨rfl, k3, N + 1, Nat.le_refl _, HK3.out, HT4.out⟩
theorem read_all (r x : RdS) (k n : Int) (b : Bool) (t : ByteArray) (gs N B : Nat) (kk : KS) (w : World) (h : (Hp.Own.both (rp r x) (Kb.own kk N 0)).holds w) (ht : Tw r x) (hg : r.good) (hx : x.good) (hk : Kb.Kn kk gs N B) (hl : r.bs.length ≤ B) (hB : B ≤ 140737488351232) (hN : N ≤ 3518437208781) :
    Calls Try.prog 28 #[.pointer (some ⟨r.g, 0, none⟩), .pointer (some ⟨x.g, 0, none⟩), .agg (ItA.mk k n b t).cells, .pointer (some ⟨gs, 0, none⟩)] w (RdAll r x k n gs N B kk w) := by
  have lift : ∀ e w', RdOk r x k n w e w' → RdAll r x k n gs N B kk w e w' := fun e w' q => ⟨q.1, kk, N, Nat.le_succ _, hk, Turns.left h q.2⟩
  by_cases h5 : k = 5
  · subst h5; exact read_bytes r x n b t gs N B kk w h ht hg hx hk hl hB hN
  have h0 : (rp r x).holds w := h.1
  by_cases h1 : k = 1
  · subst h1; exact (read_num r x n b t gs w h0 ht hg hx).mono lift
  by_cases h2 : k = 2
  · subst h2; exact (read_signed r x n b t gs w h0 ht hg hx).mono lift
  by_cases h3 : k = 3
  · subst h3; exact (read_bool r x n b t gs w h0 ht hg hx).mono lift
  by_cases h4 : k = 4
  · subst h4; exact (read_text r x n b t gs w h0 ht hg hx).mono lift
  by_cases h7 : k = 7
  · subst h7; exact (read_fail r x n b t gs w h0 ht hg hx).mono lift
  by_cases h8 : k = 8
  · subst h8; exact (read_err r x n b t gs w h0 ht hg hx).mono lift
  by_cases h9 : k = 9
  · subst h9; exact (read_close r x n b t gs w h0 ht hg hx).mono lift
  · exact (read_none r x k n b t gs w h0 (by omega)).mono lift
end Go.Proofs.Ytkpgdonpmfebaaa.Bt
