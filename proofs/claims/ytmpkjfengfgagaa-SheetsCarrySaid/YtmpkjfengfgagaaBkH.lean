/- Package sheets: the iterator. -/
import Derived.Test.YtmpkjfengfgagaaBkG
import Derived.Test.YtmpkjfengfgagaaRe
import Derived.Shelf.RegionOpen
import Derived.RangeFuncCalls
import Derived.OwnWalkIn
import Derived.TacticsInMore
import Derived.LoopNIn
import Derived.LoopIn
namespace Go.Proofs.Ytmpkjfengfgagaa.Bk
open Go.Shelf
open Go.RowKit Go.Hp
attribute [local go_sem] min2_lean min_two max2_lean max_two
set_option linter.unusedSimpArgs false
set_option linter.unusedVariables false
set_option maxRecDepth 100000
/-- The moment's cells. -/
def nowC (b : Bk) : Array Value := ofF 138 (bkF b.n b.wd (fun k => some (b.pc k)) b.tp b.ow)
section
variable {w : World} {g : Nat} {b : Bk}
theorem now_wd (h : Blk w g (nowC b) 135) : w.cell? ⟨g, 1, none⟩ = some (.int .i64 b.wd) := (h.cell 1).trans (ofF_get (by omega))
theorem now_pc (h : Blk w g (nowC b) 135) {k : Nat} (hk : k < 8) : w.cell? ⟨g, 2 + k, none⟩ = some (.pointer (some ⟨b.pc k, 0, none⟩)) := by
  refine ((h.cell (2 + k)).trans (ofF_get (by omega))).trans ?_
  simp [bkF, ptrO, show ¬ 2 + k = 0 by omega, show ¬ 2 + k = 1 by omega, show 2 + k < 10 by omega]
theorem now_tp (h : Blk w g (nowC b) 135) {k : Nat} (hk : k < 128) : w.cell? ⟨g, 10 + k, none⟩ = some (.int .i64 (b.tp k)) := by
  refine ((h.cell (10 + k)).trans (ofF_get (by omega))).trans ?_
  simp [bkF, show ¬ 10 + k = 0 by omega, show ¬ 10 + k = 1 by omega, show ¬ 10 + k < 10 by omega, show 10 + k < 138 by omega]
end
/-- What a round keeps. -/
structure Kps (P : Pool) (W W' : World) : Prop where
  size : W.heap.size ≤ W'.heap.size
  pool : P.own.holds W → P.own.holds W'
  keep : ∀ g cs T, T = 135 ∨ T = 143 → Blk W g cs T → Blk W' g cs T
theorem kps_t {P : Pool} {A B C : World} (h : Kps P A B) (k : Kps P B C) : Kps P A C := ⟨Nat.le_trans h.size k.size, fun hp => k.pool (h.pool hp), fun g cs T ht hb => k.keep g cs T ht (h.keep g cs T ht hb)⟩
theorem Kps.of_chg {P : Pool} {W W' : World} (h : Chg (fun _ => False) W W') : Kps P W W' := ⟨h.size, fun hp => Own.chg hp h (fun _ _ h => h), fun _ _ _ _ hb => hb.chg h (fun h => h)⟩
theorem kps_b {P : Pool} {w : World} (hP : ∀ b, P.own.foot b → b < w.heap.size) (W : World) (l : Nat) (o o' : Obj) (hl : w.heap.size ≤ l) (h : W.heap[l]? = some o) (hc : o.isCells = false) (_ : o.isWalk = false) : Kps P W (W.putObj l o') := by
  refine ⟨by simp, fun hp => P.own.stable hp fun b hb => World.putObj_heap_other (by have := hP b hb; omega), fun g cs T _ hb => ?_⟩
  unfold Blk at *
  rw [World.putObj_heap_other (fun e => by subst e; rw [hb] at h; cases h; cases hc)]
  exact hb
/-- An element: the number, the bytes as they lie. -/
def encS (at_ : Nat → Int) (x : Nat × Value) : Array Value := #[.agg #[.int .i64 x.1, .int .i64 (at_ x.1), x.2]]
/-- What is laid for an element. -/
def ElS (db : Nat → List UInt8) (x : Nat × Value) (W0 W1 : World) : Prop := ∃ X n c, x.2 = .slice X n c ∧ (db x.1).length = n ∧ Turns W0 W1 Hp.Own.emp (Hp.Own.row 5 1 x.2 n ((db x.1).map bv))
/-- What the iterator has. -/
structure Mom (P : Pool) (b : Bk) (gN yb l : Nat) (W : World) : Prop where
  now : Blk W gN (nowC b) 135
  box : Blk W yb #[.func (.yield l) #[] #[]] 143
  pool : P.own.holds W
theorem Mom.kps {P : Pool} {b : Bk} {gN yb l : Nat} {W W' : World} (h : Mom P b gN yb l W) (k : Kps P W W') : Mom P b gN yb l W' := ⟨k.keep _ _ _ (Or.inl rfl) h.now, k.keep _ _ _ (Or.inr rfl) h.box, k.pool h.pool⟩
theorem grown_of_chg {w w' : World} (h : Chg (fun _ => False) w w') : w.grownBy w' none := ⟨h.os, h.tape, h.output, h.size, fun k hk _ => h.block k hk (fun h => h)⟩
theorem abides_chg {β : Type} {B : Nat} {J : β → World → Prop} (h : AbidesFrom B J) {s : β} {W W' : World} (hs : J s W) (hc : Chg (fun _ => False) W W') : J s W' :=
  h s W W' none hs (grown_of_chg hc) (fun r e => by cases e)
attribute [local go_sem] Oper.semAt_some
set_option maxHeartbeats 2000000 in
theorem leaf_any {P : Pool} {b : Bk} {A : Ab} (his : Bk.Is P b A) (hsh : ∀ k, k < 8 → (b.pc k, pcC b.at_ b.dv k) ∈ P.Q) {gN yb l : Nat} {W : World} (hm : Mom P b gN yb l W) (u : Nat) (hu : u < 64)
    {J Jx : List (Nat × Value) → World → Prop} {B N : Nat} (hJ : AbidesFrom B J)
    (hY : ∀ pre x W0 W1, J pre W0 → J pre W1 → ElS A.db x W0 W1 → pre.length < N → YieldAt Fence.wide 0 Try.prog l (encS A.at_ x) W1 fun e W' => (e = .returned (.bool true) ∧ J (pre ++ [x]) W' ∧ Kps P W1 W') ∨ (e = .returned (.bool false) ∧ Jx (pre ++ [x]) W'))
    (pre : List (Nat × Value)) (hj : J pre W) (hN : pre.length < N) :
    Calls Try.prog 67 #[.int .i64 u, .pointer (some ⟨gN, 0, none⟩), .pointer (some ⟨yb, 0, none⟩)] W fun e W' => ∃ t : Bool, e = .returned (.bool t) ∧ ((t = true ∧ ∃ v, J (pre ++ [(u, v)]) W' ∧ Mom P b gN yb l W') ∨ (t = false ∧ ∃ v, Jx (pre ++ [(u, v)]) W')) := by
  have hpc := pc_cells (hm.pool.2 _ (hsh (u / 8) (by omega))) (r := u % 8) (by omega)
  have hu8 : 8 * (u / 8) + u % 8 = u := by omega
  rw [hu8, his.at_] at hpc
  have HSH := Lib.hid (sheet_any gN u (b.pc (u / 8)) W hu (now_pc hm.now (by omega)))
  have hby := Pool.byt hm.pool (his.ok.dt u hu)
  obtain ⟨X, c, hX⟩ := Src.len hby
  have hlen := his.ok.ln u
  obtain ⟨p, hp9⟩ : ∃ p, p = b.pc (u / 8) := ⟨_, rfl⟩
  obtain ⟨r, hr9⟩ : ∃ r, r = u % 8 := ⟨_, rfl⟩
  rw [← hp9, ← hr9] at hpc HSH
  obtain ⟨p0, p1⟩ := hpc
  have HBYE : ∀ l, l = A.db u → ElS A.db = ElS A.db := fun _ _ => rfl
  obtain ⟨by_, hby9⟩ : ∃ l, l = A.db u := ⟨_, rfl⟩
  obtain ⟨ats, hat⟩ : ∃ a, a = A.at_ u := ⟨_, rfl⟩
  rw [← hby9] at hX hby hlen
  rw [← hat] at p0
  rw [hX] at p1 hby
  obtain ⟨n, hn⟩ : ∃ n, n = by_.length := ⟨_, rfl⟩
  rw [← hn] at p1 hby
  have HBY := Lib.hid hby
  have HMO := Lib.hid hm
  have HDB := Lib.hid hby9
  have HAT := Lib.hid hat
  have HJ0 := Lib.hid hj
  have HJA := Lib.hid hJ
  have HY := Lib.hid hY
  have HN := Lib.hid hN
  have hn2 : n ≤ 2304 := by omega
  have b0 := lt_blk p0
  have bY : yb < W.heap.size := Blk.lt hm.box
  have cY : W.cell? ⟨yb, 0, none⟩ = some (.func (.yield l) #[] #[]) := hm.box.cell 0
  clear his hsh hm hby hlen hX hby9 hat hj hJ hY hN hp9 hr9 hu8 hn HBYE
  refine callsIn_wide.1 (callsIn_of_wp (n := 5) Try.func67 rfl trivial ?_ rfl)
  simp only [Try.ntmps67, List.size_toArray, List.length_cons, List.length_nil, Nat.reduceAdd, Nat.reduceSub, Array.replicate_succ, Array.replicate_zero, List.push_toArray, List.append_toArray, List.nil_append, List.cons_append]
  gi_wp2_with (refine ⟨trivial, ?_⟩; gi_at_call 68; refine (callsIn_wide.2 HSH.out).mono ?_; rintro r1 w1' ⟨rfl, hq⟩; have hq := hq.symm; subst hq)
  have hmo : Try.prog.follows .mixedOrders = true := by kernel_rfl
  have HYK : Hid (∀ v W1, ElS A.db (u, v) W W1 → J pre W1 → YieldAt Fence.wide 4 Try.prog l #[.agg #[.int .i64 u, .int .i64 ats, v]] W1 fun e W' => ∃ t : Bool, e = .returned (.bool t) ∧ ((t = true ∧ Hid (J (pre ++ [(u, v)]) W') ∧ Hid (Kps P W1 W')) ∨ (t = false ∧ Hid (Jx (pre ++ [(u, v)]) W')))) := Lib.hid (fun v W1 hel hj => by
    obtain ⟨fn, tmps, assign, body, hy, hR⟩ := HY.out pre (u, v) W W1 HJ0.out hj hel HN.out
    rw [HAT.out]
    refine ⟨fn, tmps, assign, body, hy, trivial, fun c cs _ => ?_⟩
    exact ((RoundIn.mono hR) (fun e W' h => h.elim (fun h => ⟨true, h.1, Or.inl ⟨rfl, h.2.1, h.2.2⟩⟩) (fun h => ⟨false, h.1, Or.inr ⟨rfl, h.2⟩⟩))).2 c cs (room_wide _))
  gi_region_with_o (first
    | (refine ⟨trivial, ?_⟩; gi_at_call 69; refine (callsIn_wide.2 (clone_any X n c by_ _ (by exact byt_keep HBY.out ((Chg.refl _ _).drew)) (by omega))).mono ?_; rintro r2 w2 ⟨A2, cc, rfl, hln, t2⟩; have k0 := (t2.chg.cell (p := ⟨p, r * 2, none⟩) b0 id).trans p0; have k1 := (t2.chg.cell (p := ⟨p, r * 2 + 1, none⟩) b0 id).trans p1; have k2 := (t2.chg.cell (p := ⟨yb, 0, none⟩) bY id).trans cY; have HT2 := Lib.hid t2.drewl; have HLN := Lib.hid hln; clear t2 hln; obtain ⟨fn, tmps, assign, body, hy, hR⟩ := HYK.out (.slice A2 n cc) w2 ⟨A2, n, cc, rfl, by rw [← HDB.out]; exact HLN.out, by rw [← HDB.out]; exact HT2.out⟩ (abides_chg HJA.out HJ0.out (HT2.out.chg.mono fun _ _ h => h.elim)))
    | (refine hR.mono ?_; rintro r w3 ⟨t, rfl, hh⟩))
  all_goals (
    have HC := Lib.hid (HT2.out.chg.mono (T := fun _ => False) fun _ _ h => h.elim)
    clear hR hy HYK HY HSH
    rcases hh with ⟨rfl, hj3, hk3⟩ | ⟨rfl, hj3⟩
    · gi_wp2_with fail
      exact bodyPost_ret (v := .bool true) (by simp [results, Try.results67, go_sem]) rfl ⟨true, rfl, Or.inl ⟨rfl, _, hj3.out, (HMO.out.kps (Kps.of_chg HC.out)).kps hk3.out⟩⟩
    · gi_wp2_with fail
      exact bodyPost_ret (v := .bool false) (by simp [results, Try.results67, go_sem]) rfl ⟨false, rfl, Or.inr ⟨rfl, _, hj3.out⟩⟩)
end Go.Proofs.Ytmpkjfengfgagaa.Bk
