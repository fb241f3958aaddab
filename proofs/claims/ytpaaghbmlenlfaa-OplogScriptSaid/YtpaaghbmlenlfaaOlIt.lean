/- What All gives: the contract of its iterator. -/
import Derived.Test.YtpaaghbmlenlfaaOlCl
import Derived.RangeFuncNested
import Derived.RangeFuncBound
import Derived.RangeFuncCalls
import Derived.RangeFuncLeaves
import Derived.RangeFuncFrom
import Derived.Shelf.Abstract
import Derived.Shelf.RegionOpen
import Derived.OwnWalkIn
import Derived.TacticsInMore
import Derived.LoopNIn
import Derived.LoopIn
namespace Go.Proofs.Ytpaaghbmlenlfaa.Ol
open Go.Shelf
open Go.RowKit Go.Hp
attribute [local go_sem] min2_lean min_two max2_lean max_two
set_option linter.unusedSimpArgs false
set_option linter.unusedVariables false
set_option maxRecDepth 100000
/-- The slice that lies at a shows block b. -/
def pts (W : World) (a : Addr) (b : Nat) : Prop := ∃ ad n c, W.cell? a = some (.slice (some ad) n c) ∧ ad.block = b
/-- What a round keeps: all that is newer than the loop, but for what the slice at a shows; and that slice moves to new blocks alone. -/
structure Kpt (n : Nat) (a : Addr) (W W' : World) : Prop where
  size : W.heap.size ≤ W'.heap.size
  keep : ∀ b cs T, n ≤ b → Blk W b cs T → ¬ pts W a b → Blk W' b cs T
  pts : ∀ b, pts W' a b → pts W a b ∨ W.heap.size ≤ b
theorem kpt_t {n : Nat} {a : Addr} {A B C : World} (h : Kpt n a A B) (k : Kpt n a B C) : Kpt n a A C :=
  ⟨Nat.le_trans h.size k.size, fun b cs T hn hb hp => k.keep b cs T hn (h.keep b cs T hn hb hp) (fun hq => (h.pts b hq).elim hp (fun hge => by have := Blk.lt hb; omega)),
    fun b hb => (k.pts b hb).elim (h.pts b) (fun hge => Or.inr (Nat.le_trans h.size hge))⟩
theorem pts_of_block {W W' : World} {a : Addr} (h : W'.heap[a.block]? = W.heap[a.block]?) (b : Nat) (hp : pts W' a b) : pts W a b := by
  obtain ⟨ad, n, c, hc, hb⟩ := hp
  exact ⟨ad, n, c, by rw [← hc]; exact (World.cell?_of_block (w := W) h).symm, hb⟩
theorem kpt_b {n : Nat} {a : Addr} {w : World} (ha : a.block < w.heap.size) (W : World) (l : Nat) (o o' : Obj) (hl : w.heap.size ≤ l) (h : W.heap[l]? = some o) (hc : o.isCells = false) (_ : o.isWalk = false) : Kpt n a W (W.putObj l o') := by
  have hg := grownBy_putObj' W l o'
  refine ⟨hg.size, fun b cs T hn hb hp => ?_, fun b hb => Or.inl (pts_of_block (World.putObj_heap_other (by omega)) b hb)⟩
  unfold Blk at *
  rw [hg.block b (Array.getElem?_eq_some_iff.1 hb).1 (fun e => by cases e; rw [hb] at h; cases h; cases hc)]
  exact hb
/-- What changes nothing that stood keeps all. -/
theorem Kpt.of_chg {n : Nat} {a : Addr} {W W' : World} (h : Chg (fun _ => False) W W') (ha : a.block < W.heap.size) : Kpt n a W W' :=
  ⟨h.size, fun b cs T _ hb _ => hb.chg h (fun h => h), fun b hb => Or.inl (pts_of_block (h.block _ ha (fun h => h)) b hb)⟩
theorem grown_of_chg {w w' : World} (h : Chg (fun _ => False) w w') : w.grownBy w' none := ⟨h.os, h.tape, h.output, h.size, fun k hk _ => h.block k hk (fun h => h)⟩
theorem AbidesFrom.chg {β : Type} {B : Nat} {J : β → World → Prop} (h : AbidesFrom B J) {s : β} {W W' : World} (hs : J s W) (hc : Chg (fun _ => False) W W') : J s W' :=
  h s W W' none hs (grown_of_chg hc) (fun r e => by cases e)
/-- The first k of what All gives. -/
def upTo (s : LogS) (k : Nat) : List (Int × En) := (List.range k).map fun (j : Nat) => (s.base + 1 + (j : Int), s.list.getD j default)
theorem upTo_succ (s : LogS) (k : Nat) : upTo s (k + 1) = upTo s k ++ [(s.base + 1 + (k : Int), s.list.getD k default)] := by simp [upTo, List.range_succ]
theorem upTo_len (s : LogS) (k : Nat) : (upTo s k).length = k := by simp [upTo]
theorem upTo_pre (s : LogS) {k m : Nat} (h : k ≤ m) : upTo s k <+: upTo s m := by
  induction h with
  | refl => exact List.prefix_refl _
  | step _ ih => rw [upTo_succ]; exact ih.trans (List.prefix_append _ _)
theorem LogS.own_kpt {s : LogS} {n : Nat} {a : Addr} {W W' : World} (h : s.own.holds W) (hf : ∀ b, s.own.foot b → n ≤ b ∧ ¬ pts W a b) (hk : Kpt n a W W') : s.own.holds W' :=
  ⟨hk.keep _ _ _ (hf s.g (Or.inl rfl)).1 h.1 (hf s.g (Or.inl rfl)).2, hk.keep _ _ _ (hf s.pb (Or.inr rfl)).1 h.2.1 (hf s.pb (Or.inr rfl)).2, h.2.2⟩
theorem LogS.far_kpt {s : LogS} {n : Nat} {a : Addr} {W W' : World} (h : s.own.holds W) (hf : ∀ b, s.own.foot b → n ≤ b ∧ ¬ pts W a b) (hk : Kpt n a W W') : ∀ b, s.own.foot b → n ≤ b ∧ ¬ pts W' a b :=
  fun b hb => ⟨(hf b hb).1, fun hp => (hk.pts b hp).elim (hf b hb).2 (fun hge => by have := s.own.lt h b hb; omega)⟩
def encE (x : Int × En) : Array Value := #[.int .i64 x.1, .agg x.2.cells.toArray]
attribute [local go_sem] Oper.semAt_some
set_option maxHeartbeats 2000000 in
theorem all_stops (s : LogS) (bx n m : Nat) (a : Addr) (w : World) (hn : n ≤ w.heap.size) (hab : a.block < w.heap.size) (hp : ∀ b, pts w a b → b < w.heap.size) (hbx : bx < w.heap.size)
    (hc : w.cell? ⟨bx, 0, none⟩ = some (.pointer (some ⟨s.g, 0, none⟩))) (hs : s.own.holds w) (hok : s.ok) (hm : 1 ≤ m) :
    SeqStopsK Fence.wide m Try.prog 48 #[.pointer (some ⟨bx, 0, none⟩)] encE (Kpt n a) (fun xs => xs = upTo s s.many) (fun pre => pre <+: upTo s s.many) s.many w := by
  intro l J Jx W hW hJ hJx hY h0
  have hcW : W.cell? ⟨bx, 0, none⟩ = some (.pointer (some ⟨s.g, 0, none⟩)) := (hW.cell (p := ⟨bx, 0, none⟩) hbx).trans hc
  have HS : Hid (s.own.holds W) := Own.chg hs (Chg.of_below hW (fun _ => False)) (fun _ _ h => h)
  have HPT : Hid (∀ b, pts W a b → b < w.heap.size) := fun b hb => hp b (pts_of_block (hW.block _ hab) b hb)
  have habW : a.block < W.heap.size := Nat.lt_of_lt_of_le hab hW.size
  have hwW := hW.size
  have HJ := Lib.hid hJ
  have HJx := Lib.hid hJx
  have HY := Lib.hid hY
  have H0 := Lib.hid h0
  have Hok := Lib.hid hok
  have l4 := hok.m
  have l2 := hok.r64
  have lb0 := hok.b0
  have lb1 := hok.b1
  clear hs hc hp hW hJ hJx hY h0 hok
  have HCL : Calls Try.prog 36 #[.pointer (some ⟨s.g, 0, none⟩)] W fun r w1 => ∃ s2 : LogS, r = .returned (.pointer (some ⟨s2.g, 0, none⟩)) ∧ w1.cell? ⟨s2.g, 3, none⟩ = some (.int .i64 s.many) ∧ Hid (s2.own.holds w1) ∧ Hid s2.ok ∧ Hid (s2.list = s.list) ∧ Hid (s2.base = s.base ∧ s2.many = s.many ∧ s2.es = s.es ∧ s2.first = s.first) ∧ Hid (∀ b, s2.own.foot b → n ≤ b ∧ ¬ pts w1 a b) ∧ Hid (J (upTo s 0) w1) ∧ a.block < w1.heap.size ∧ Hid (∀ b, s2.own.foot b → W.heap.size ≤ b) := by
    refine (clone_any s _ (by exact HS.out) Hok.out).mono ?_
    rintro r w1 ⟨g, pb, rfl, ht⟩
    have q4 : Chg (fun _ => False) W w1 := ht.chg.mono (fun _ _ h => h.elim)
    have q3 : ∀ b, ({ s with g := g, pb := pb } : LogS).own.foot b → W.heap.size ≤ b := fun b hb => (ht.near b hb).elim (fun h => h.elim) (fun h => h)
    refine ⟨{ s with g := g, pb := pb }, rfl, (LogS.cells ht.now).2.2.2, ht.now, ⟨Hok.out.r1, Hok.out.r64, Hok.out.f, Hok.out.m, Hok.out.b0, Hok.out.b1⟩, rfl, ⟨rfl, rfl, rfl, rfl⟩, fun b hb => ⟨by have := q3 b hb; omega, fun hp => ?_⟩, ?_, Nat.lt_of_lt_of_le habW q4.size, q3⟩
    · have h1 := HPT.out b (pts_of_block (q4.block _ habW (fun h => h)) b hp)
      have h2 := q3 b hb
      omega
    · exact AbidesFrom.chg HJ.out H0.out q4
  refine callsIn_of_wp Try.func48 rfl trivial ?_ rfl
  simp only [Try.ntmps48, List.size_toArray, List.length_cons, List.length_nil, Nat.reduceAdd, Nat.reduceSub, Array.replicate_succ, Array.replicate_zero, List.push_toArray, List.append_toArray, List.nil_append, List.cons_append]
  gi_wp2_with (refine ⟨trivial, ?_⟩; gi_at_call 36; refine (callsIn_wide.2 HCL).mono ?_; rintro r w1 ⟨s2, rfl, m0, HH, HK2, HL2, HQ, HN0, HJ0, hsz1, HF2⟩)
  obtain ⟨q7, q8, q9, q10⟩ := HQ.out
  clear HQ HCL
  gi_loopw [12] (fun p wr => ∃ k : Nat, p = .int .i64 (k : Int) ∧ k ≤ s.many ∧ Hid (s2.own.holds wr) ∧ Hid (∀ b, s2.own.foot b → n ≤ b ∧ ¬ pts wr a b) ∧ Hid (J (upTo s k) wr) ∧ w1.heap.size ≤ wr.heap.size)
    (fun p _ => s.many - (intOf p).toNat)
  case atStart => exact ⟨0, rfl, Nat.zero_le _, HH, HN0, HJ0, Nat.le_refl _⟩
  case round =>
    obtain ⟨k, rfl, hk, HHr, HNr, HJr, hsr⟩ := hrel
    by_cases hkm : k < s.many
    · have hd : decide (k < s.many) = true := by simpa using hkm
      have hlen : s.list.length = s.many := s.list_len
      obtain ⟨e, he⟩ : ∃ e, s.list[k]? = some e := ⟨s.list[k]'(by omega), List.getElem?_eq_getElem _⟩
      have hx : s.list.getD k default = e := by rw [List.getD_eq_getElem?_getD, he]; rfl
      have he2 : s2.es[(s2.first + k) % s2.es.length]? = some e := by
        have := s2.list_get HK2.out k (by rw [q8]; exact hkm)
        rw [HL2.out, he] at this
        exact this.symm
      have hkl : k < s2.es.length := by rw [q9]; omega
      have HG := Lib.hid (fun W1 (h : s2.own.holds W1) => rget_any s2 k e W1 h HK2.out hkl he2)
      have c0 : wr.cell? ⟨s2.g, 0, none⟩ = some (.int .i64 s.base) := by rw [← q7]; exact (LogS.cells HHr.out).1
      have hgl : s2.g < wr.heap.size := Blk.lt HHr.out.1
      have HYK : Hid (∀ W1, J (upTo s k) W1 → YieldAt Fence.wide (m - 1) Try.prog l #[.int .i64 (s.base + 1 + (k : Int)), .agg e.cells.toArray] W1 fun e W' => ∃ t, e = .returned (.bool t) ∧ ((t = true ∧ Hid (J (upTo s (k + 1)) W') ∧ Hid (Kpt n a W1 W')) ∨ (t = false ∧ Hid (Jx (upTo s (k + 1)) W')))) := by
        intro W1 hj
        have := HY.out (upTo s k) (s.base + 1 + (k : Int), s.list.getD k default) W1 hj (by rw [upTo_len]; exact hkm)
        rw [← upTo_succ, hx] at this
        obtain ⟨fn, tmps, assign, body, hy, hR⟩ := this
        exact ⟨fn, tmps, assign, body, hy, hR.mono fun e W' h => h.elim (fun h => ⟨true, h.1, Or.inl ⟨rfl, h.2.1, h.2.2⟩⟩) (fun h => ⟨false, h.1, Or.inr ⟨rfl, h.2⟩⟩)⟩
      clear he2 hx
      have hw1 : IntKind.i64.wrap (s.base + 1) = s.base + 1 := IntWalk.i64_in _ (by omega)
      have hw2 : IntKind.i64.wrap (s.base + 1 + (k : Int)) = s.base + 1 + (k : Int) := IntWalk.i64_in _ (by omega)
      gi_wp2_with fail
      have hmo : Try.prog.follows .mixedOrders = true := by kernel_rfl
      gi_region_with_o (first
        | (refine ⟨trivial, ?_⟩; gi_at_call 47; refine (callsIn_wide.2 (HG.out _ (by exact HHr.out))).mono ?_; rintro r w2 ⟨rfl, hk1⟩; obtain ⟨fn, tmps, assign, body, hy, hR⟩ := HYK.out w2 (AbidesFrom.chg HJ.out (s := upTo s k) (W := wr) HJr.out ⟨hk1.os, hk1.tape, hk1.output, hk1.size, hk1.block⟩); have c2 : w2.cell? ⟨s2.g, 0, none⟩ = some (.int .i64 s.base) := (hk1.cell (p := ⟨s2.g, 0, none⟩) hgl id).trans c0)
        | (refine hR.mono ?_; rintro r w3 ⟨t, rfl, hh⟩))
      all_goals (
        have HC := Lib.hid (show Chg (fun _ => False) wr w2 from ⟨hk1.os, hk1.tape, hk1.output, hk1.size, hk1.block⟩)
        have HP2 := Lib.hid (LogS.far_kpt HHr.out HNr.out (Kpt.of_chg HC.out (Nat.lt_of_lt_of_le hsz1 hsr)))
        have HO2 := Lib.hid (LogS.own_kpt HHr.out HNr.out (Kpt.of_chg HC.out (Nat.lt_of_lt_of_le hsz1 hsr)))
        have hs2 := HC.out.size
        clear hR hy hk1 HYK HG
        rcases hh with ⟨rfl, hj3, hk3⟩ | ⟨rfl, hj3⟩
        · have hs3 := hk3.out.size
          have HO3 := Lib.hid (LogS.own_kpt HO2.out HP2.out hk3.out)
          have HP3 := Lib.hid (LogS.far_kpt HO2.out HP2.out hk3.out)
          clear hk3
          gi_wp2_with fail
          go_roundw
          case rel => exact ⟨k + 1, by simp, hkm, HO3, HP3, hj3, by omega⟩
          case measure => first | (simp [intOf]; omega) | omega
        · gi_wp2_with fail
          exact bodyPost_ret (results_none rfl _ _ _) rfl ⟨⟨_, rfl⟩, .inr ⟨upTo s (k + 1), upTo_pre s hkm, hj3.out⟩⟩)
    · have hd : decide (k < s.many) = false := by simpa using hkm
      have hke : k = s.many := by omega
      clear HY
      gi_wp2_with fail
      exact bodyPost_end (results_none rfl _ _ _) rfl ⟨⟨_, rfl⟩, .inl ⟨upTo s s.many, rfl, by rw [← hke]; exact HJr.out⟩⟩
end Go.Proofs.Ytpaaghbmlenlfaa.Ol
