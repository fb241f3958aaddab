/- Texts of this claim, one behind the other: Hp, Sp, AppS, Ap, RlC, RlD, Kp, Kq, RlE, RlF, BtW, BtWr, BtW2, BtW3, Bx0, Bx1, Bx2, BrS, BrO, BrG, BrN. -/
import Derived.Test.YtkpgdonpmfebaaaProg
import Derived.WalkKit
import Derived.Below
import Derived.OneCell
import Derived.Deep.Draws
import Derived.ProofKit
import Derived.SizedLaws
import Derived.Laws.OwnMore
import Derived.Maps.AppendAt
import Derived.Deep.MidRow
import Derived.RegionTactic
import Derived.Lib.AppendStr
import Derived.OwnWalk
import Derived.Deep.AppendLies
import Derived.Laws.CopyOwn
import Derived.Deep.QuietTactic
import Derived.Deep.RegionHeld3
import Derived.Deep.RegionLaw
import Derived.Lib.Hide
import Derived.WalkSpells
import Derived.BigQuiet
import Derived.StillTailTactics
import Derived.Laws.BitsAllLaws
import Derived.Lib.Zigzag
import Derived.Lib.ConvBytes
/- Blocks of cells that are known whole, and what a call has turned. Plain lemmas on worlds. -/
namespace Go.Hp
open Go.RowKit

/-- Block b of w is the row cs of type t, not frozen. -/
def Blk (w : World) (b : Nat) (cs : Array Value) (t : TypeId) : Prop := w.heap[b]? = some (.cells cs t (0, 0))

theorem Blk.lt {w : World} {b : Nat} {cs : Array Value} {t : TypeId} (h : Blk w b cs t) : b < w.heap.size := by
  unfold Blk at h
  by_cases hb : b < w.heap.size
  · exact hb
  · rw [Array.getElem?_eq_none (by omega)] at h; cases h

theorem Blk.cell {w : World} {b : Nat} {cs : Array Value} {t : TypeId} (h : Blk w b cs t) (o : Nat) : w.cell? ⟨b, o, none⟩ = cs[o]? := by
  unfold Blk at h
  simp [World.cell?, h]

theorem Blk.frozen {w : World} {b : Nat} {cs : Array Value} {t : TypeId} (h : Blk w b cs t) (o : Nat) : w.frozen? ⟨b, o, none⟩ = false := by
  unfold Blk at h
  simp [World.frozen?, h]

theorem Blk.alloc {w : World} {b : Nat} {cs : Array Value} {t : TypeId} (h : Blk w b cs t) (o : Obj) : Blk (w.alloc o) b cs t := by
  have hl := h.lt
  unfold Blk at *
  rw [Below.heap_alloc w o b hl]; exact h

theorem Blk.new (w : World) (cs : Array Value) (t : TypeId) : Blk (w.alloc (.cells cs t)) w.heap.size cs t := by
  unfold Blk
  show (w.heap.push _)[w.heap.size]? = _
  simp

theorem Blk.drew {w : World} {b : Nat} {cs : Array Value} {t : TypeId} (h : Blk w b cs t) : Blk w.drew b cs t := h
theorem Blk.drewN {w : World} {b : Nat} {cs : Array Value} {t : TypeId} (h : Blk w b cs t) (n : Nat) : Blk (w.drewN n) b cs t := h

theorem Blk.set {w : World} {b : Nat} {cs : Array Value} {t : TypeId} (h : Blk w b cs t) (o : Nat) (v : Value) : Blk (w.setCell ⟨b, o, none⟩ v) b (cs.setIfInBounds o v) t := by
  unfold Blk at *
  simp [World.setCell, Array.getElem?_modify, h]

theorem Blk.set_ne {w : World} {b : Nat} {cs : Array Value} {t : TypeId} (h : Blk w b cs t) {a : Addr} (ha : b ≠ a.block) (v : Value) : Blk (w.setCell a v) b cs t := by
  unfold Blk at *
  rw [Below.heap_setCell w a v b ha]; exact h

theorem Blk.inj {w : World} {b : Nat} {cs cs' : Array Value} {t t' : TypeId} (h : Blk w b cs t) (h' : Blk w b cs' t') : cs = cs' ∧ t = t' := by
  unfold Blk at *
  rw [h] at h'
  simp at h'
  exact h'

theorem Blk.below {w w' : World} {b : Nat} {cs : Array Value} {t : TypeId} (h : Blk w b cs t) {B : Nat} (hb : Below B w w') (hB : b < B) : Blk w' b cs t := by
  unfold Blk at *
  rw [hb.block b hB]; exact h

/-- What stood in w stands in w', but for the blocks of S; new blocks may have come. -/
structure Chg (S : Nat → Prop) (w w' : World) : Prop where
  os : w'.os = w.os
  tape : w'.tape = w.tape
  output : w'.output = w.output
  size : w.heap.size ≤ w'.heap.size
  block : ∀ k, k < w.heap.size → ¬ S k → w'.heap[k]? = w.heap[k]?

theorem Chg.refl (S : Nat → Prop) (w : World) : Chg S w w := ⟨rfl, rfl, rfl, Nat.le_refl _, fun _ _ _ => rfl⟩
theorem Chg.trans {S : Nat → Prop} {a b c : World} (h : Chg S a b) (k : Chg S b c) : Chg S a c :=
  ⟨k.os.trans h.os, k.tape.trans h.tape, k.output.trans h.output, Nat.le_trans h.size k.size, fun i hi hS => (k.block i (Nat.lt_of_lt_of_le hi h.size) hS).trans (h.block i hi hS)⟩
theorem Chg.mono {S T : Nat → Prop} {a b : World} (h : Chg S a b) (hT : ∀ k, k < a.heap.size → S k → T k) : Chg T a b :=
  ⟨h.os, h.tape, h.output, h.size, fun i hi hS => h.block i hi (fun hs => hS (hT i hi hs))⟩
theorem Chg.drew {S : Nat → Prop} {a b : World} (h : Chg S a b) : Chg S a b.drew := ⟨h.os, h.tape, h.output, h.size, h.block⟩
theorem Chg.drewN {S : Nat → Prop} {a b : World} (h : Chg S a b) (n : Nat) : Chg S a (b.drewN n) := ⟨h.os, h.tape, h.output, h.size, h.block⟩
theorem Chg.alloc {S : Nat → Prop} {a b : World} (h : Chg S a b) (o : Obj) : Chg S a (b.alloc o) :=
  h.trans ⟨rfl, rfl, rfl, by simp, fun k hk _ => Below.heap_alloc _ _ _ hk⟩
/-- A store into a block of S, or into one that is new since a. -/
theorem Chg.set {S : Nat → Prop} {a b : World} (h : Chg S a b) {p : Addr} (hp : a.heap.size ≤ p.block ∨ S p.block) (v : Value) : Chg S a (b.setCell p v) :=
  ⟨h.os, h.tape, h.output, by have := h.size; simpa [World.setCell] using this, fun i hi hS => by
    rw [Below.heap_setCell _ _ _ _ (by rintro rfl; rcases hp with hp | hp; · omega
                                       · exact hS hp)]; exact h.block i hi hS⟩
theorem Chg.below {S : Nat → Prop} {a b : World} (h : Chg S a b) {B : Nat} (hS : ∀ k, S k → B ≤ k) (hB : B ≤ a.heap.size) : Below B a b :=
  ⟨h.os, h.tape, h.output, h.size, fun k hk => h.block k (by omega) (fun hs => by have := hS k hs; omega)⟩
theorem Chg.of_below {w w' : World} (h : Below w.heap.size w w') (S : Nat → Prop) : Chg S w w' := ⟨h.os, h.tape, h.output, h.size, fun k hk _ => h.block k hk⟩
theorem Chg.cell {S : Nat → Prop} {w w' : World} (hc : Chg S w w') {p : Addr} (hp : p.block < w.heap.size) (hS : ¬ S p.block) : w'.cell? p = w.cell? p := World.cell?_of_block (w := w) (hc.block p.block hp hS)
theorem Chg.frozen {S : Nat → Prop} {w w' : World} (hc : Chg S w w') {p : Addr} (hp : p.block < w.heap.size) (hS : ¬ S p.block) : w'.frozen? p = w.frozen? p := World.frozen?_of_block (w := w) (hc.block p.block hp hS)
theorem Blk.chg {w w' : World} {b : Nat} {cs : Array Value} {t : TypeId} (h : Blk w b cs t) {S : Nat → Prop} (hc : Chg S w w') (hS : ¬ S b) : Blk w' b cs t := by
  have hl := h.lt
  unfold Blk at *
  rw [hc.block b hl hS]; exact h

/-- Block g alone has turned: it holds cs now. -/
structure SetBlk (w w' : World) (g : Nat) (cs : Array Value) (T : TypeId) : Prop where
  blk : Blk w' g cs T
  size : w'.heap.size = w.heap.size
  chg : Chg (· = g) w w'

theorem SetBlk.of_set {w : World} {g : Nat} {cs : Array Value} {T : TypeId} (h : Blk w g cs T) (o : Nat) (v : Value) : SetBlk w (w.setCell ⟨g, o, none⟩ v) g (cs.setIfInBounds o v) T :=
  ⟨h.set o v, by simp [World.setCell], Chg.set (S := (· = g)) (Chg.refl _ w) (p := ⟨g, o, none⟩) (Or.inr rfl) v⟩
theorem SetBlk.then {w w' : World} {g : Nat} {cs : Array Value} {T : TypeId} (h : SetBlk w w' g cs T) (o : Nat) (v : Value) : SetBlk w (w'.setCell ⟨g, o, none⟩ v) g (cs.setIfInBounds o v) T :=
  ⟨h.blk.set o v, by rw [← h.size]; simp [World.setCell], Chg.set (S := (· = g)) h.chg (p := ⟨g, o, none⟩) (Or.inr rfl) v⟩
theorem SetBlk.drew {w w' : World} {g : Nat} {cs : Array Value} {T : TypeId} (h : SetBlk w w' g cs T) : SetBlk w w'.drew g cs T := ⟨h.blk, h.size, h.chg.drew⟩
theorem SetBlk.drewl {w w' : World} {g : Nat} {cs : Array Value} {T : TypeId} (h : SetBlk w.drew w' g cs T) : SetBlk w w' g cs T := ⟨h.blk, h.size, ⟨h.chg.os, h.chg.tape, h.chg.output, h.chg.size, h.chg.block⟩⟩
theorem SetBlk.drewN {w w' : World} {g : Nat} {cs : Array Value} {T : TypeId} (h : SetBlk w w' g cs T) (n : Nat) : SetBlk w (w'.drewN n) g cs T := ⟨h.blk, h.size, h.chg.drewN n⟩

/-- A value that came in as an argument: it can be read as data, and what is read takes no more than fits. -/
def ArgOk (P : Program) (W : World) (T : TypeId) (v : Value) : Prop :=
  ∃ (H : Type) (enc : TypeId × Value → H) (d : DataW H) (p : List MemPlace) (base : Nat), Value.okWide P W .any base T v ∧ DataW.Trod enc P W 0 (fun _ => true) true T v d p ∧ (d.weights P T).all (· ≤ reachBytes) = true

theorem min2_lean (k k' : IntKind) (x y : Int) : Builtin.min2 (.int k x) (.int k' y) = pure (.int k (min x y)) := by
  simp only [Builtin.min2]
  congr 2
  show (if y < x then y else x) = min x y
  split <;> omega
theorem max2_lean (k k' : IntKind) (x y : Int) : Builtin.max2 (.int k x) (.int k' y) = pure (.int k (max x y)) := by
  simp only [Builtin.max2, gt_iff_lt]
  congr 2
  split <;> omega
theorem max_two (ats : Array TypeId) (ty : TypeId) (a b : Value) : Builtin.max_ ats ty #[a, b] = (Builtin.max2 a b >>= fun s => pure s) := by simp only [Builtin.max_, List.foldlM_cons, List.foldlM_nil]
theorem min_two (ats : Array TypeId) (ty : TypeId) (a b : Value) : Builtin.min_ ats ty #[a, b] = (Builtin.min2 a b >>= fun s => pure s) := by simp only [Builtin.min_, List.foldlM_cons, List.foldlM_nil]
end Go.Hp

/- Things in memory, each with the blocks that it takes; a family of things that share no block; what a step turns. Plain lemmas on worlds. -/
namespace Go.Hp
open Go.RowKit

structure Own where
  foot : Nat → Prop
  holds : World → Prop
  stable : ∀ {w w' : World}, holds w → (∀ b, foot b → w'.heap[b]? = w.heap[b]?) → holds w'
  lt : ∀ {w : World}, holds w → ∀ b, foot b → b < w.heap.size

theorem row_heap {w w' : World} {B : Nat} {e : TypeId} {size n : Nat} {v : Value} {xs : List Value} (h : w.ownsRow B e size v n xs) (hb : ∀ b, v.ownBlock = some b → w'.heap[b]? = w.heap[b]?) : w'.ownsRow B e size v n xs := by
  refine ⟨h.1, ?_⟩
  rcases h.2 with hn | ⟨g, cap, cur, rfl, h1, hgg, rest⟩
  · exact .inl hn
  · exact .inr ⟨g, cap, cur, rfl, h1, by rw [hb g rfl]; exact hgg, rest⟩

def Own.emp : Own := ⟨fun _ => False, fun _ => True, fun _ _ => trivial, fun _ _ h => h.elim⟩
def Own.blk (g : Nat) (cs : Array Value) (T : TypeId) : Own := ⟨(· = g), fun w => Blk w g cs T, fun h hb => by unfold Blk at *; rw [hb g rfl]; exact h, fun h b hb => by cases hb; exact Blk.lt h⟩
def Own.row (E : TypeId) (size : Nat) (v : Value) (n : Nat) (xs : List Value) : Own :=
  ⟨fun b => v.ownBlock = some b, fun w => w.ownsRow 0 E size v n xs, fun h hb => row_heap h hb, fun h b hb => (h.lt b hb).2⟩
def Own.both (A B : Own) : Own :=
  ⟨fun b => A.foot b ∨ B.foot b, fun w => A.holds w ∧ B.holds w ∧ ∀ b, A.foot b → B.foot b → False,
    fun h hb => ⟨A.stable h.1 fun b hf => hb b (Or.inl hf), B.stable h.2.1 fun b hf => hb b (Or.inr hf), h.2.2⟩,
    fun h b hb => hb.elim (A.lt h.1 b) (B.lt h.2.1 b)⟩

theorem Own.chg {O : Own} {w w' : World} {S : Nat → Prop} (h : O.holds w) (hc : Chg S w w') (hS : ∀ b, O.foot b → ¬ S b) : O.holds w' :=
  O.stable h fun b hb => hc.block b (O.lt h b hb) (hS b hb)

/-- A step turns one thing into another: its own blocks and new ones alone. -/
structure Turns (w w' : World) (O O' : Own) : Prop where
  chg : Chg O.foot w w'
  now : O'.holds w'
  near : ∀ b, O'.foot b → O.foot b ∨ w.heap.size ≤ b

theorem Turns.refl {w : World} {O : Own} (h : O.holds w) : Turns w w O O := ⟨Chg.refl _ _, h, fun _ hb => Or.inl hb⟩
theorem Turns.trans {w w' w'' : World} {O O' O'' : Own} (h : Turns w w' O O') (k : Turns w' w'' O' O'') : Turns w w'' O O'' :=
  ⟨⟨k.chg.os.trans h.chg.os, k.chg.tape.trans h.chg.tape, k.chg.output.trans h.chg.output, Nat.le_trans h.chg.size k.chg.size, fun i hi hS =>
      (k.chg.block i (Nat.lt_of_lt_of_le hi h.chg.size) (fun hf => (h.near i hf).elim hS (fun hge => by omega))).trans (h.chg.block i hi hS)⟩,
    k.now, fun b hb => (k.near b hb).elim (h.near b) (fun hge => Or.inr (Nat.le_trans h.chg.size hge))⟩
theorem Turns.drew {w w' : World} {O O' : Own} (h : Turns w w' O O') : Turns w w'.drew O O' := ⟨h.chg.drew, O'.stable h.now fun _ _ => rfl, h.near⟩
theorem Turns.drewN {w w' : World} {O O' : Own} (h : Turns w w' O O') (n : Nat) : Turns w (w'.drewN n) O O' := ⟨h.chg.drewN n, O'.stable h.now fun _ _ => rfl, h.near⟩
theorem Turns.alloc {w w' : World} {O O' : Own} (h : Turns w w' O O') (o : Obj) : Turns w (w'.alloc o) O O' :=
  ⟨h.chg.alloc o, O'.stable h.now fun b hb => Below.heap_alloc _ _ _ (O'.lt h.now b hb), h.near⟩
theorem Turns.drewl {w w' : World} {O O' : Own} (h : Turns w.drew w' O O') : Turns w w' O O' := ⟨⟨h.chg.os, h.chg.tape, h.chg.output, h.chg.size, h.chg.block⟩, h.now, h.near⟩
theorem Turns.drewNl {w w' : World} {O O' : Own} {n : Nat} (h : Turns (w.drewN n) w' O O') : Turns w w' O O' := ⟨⟨h.chg.os, h.chg.tape, h.chg.output, h.chg.size, h.chg.block⟩, h.now, h.near⟩

theorem Turns.wide {w w' : World} {O' : Own} (h : Turns w w' Own.emp O') (O : Own) : Turns w w' O O' :=
  ⟨h.chg.mono fun _ _ hf => hf.elim, h.now, fun b hb => (h.near b hb).elim (fun hf => hf.elim) Or.inr⟩
theorem Turns.blk_set {w : World} {g : Nat} {cs : Array Value} {T : TypeId} (h : Blk w g cs T) (o : Nat) (v : Value) : Turns w (w.setCell ⟨g, o, none⟩ v) (Own.blk g cs T) (Own.blk g (cs.setIfInBounds o v) T) :=
  ⟨Chg.set (S := (· = g)) (Chg.refl _ w) (p := ⟨g, o, none⟩) (Or.inr rfl) v, h.set o v, fun _ hb => Or.inl hb⟩
theorem Turns.blk_new (w : World) (cs : Array Value) (T : TypeId) : Turns w (w.alloc (.cells cs T)) Own.emp (Own.blk w.heap.size cs T) :=
  ⟨(Chg.refl _ _).alloc _, Blk.new _ _ _, fun b hb => by cases hb; exact Or.inr (Nat.le_refl _)⟩
theorem Turns.new {w : World} (O : Own) (cs : Array Value) (T : TypeId) : Turns w (w.alloc (.cells cs T)) O (Own.blk w.heap.size cs T) :=
  ⟨(Chg.refl _ _).alloc _, Blk.new _ _ _, fun b hb => by cases hb; exact Or.inr (Nat.le_refl _)⟩
theorem Turns.of_setBlk {w w' : World} {g : Nat} {cs cs' : Array Value} {T T' : TypeId} (h : SetBlk w w' g cs' T) : Turns w w' (Own.blk g cs T') (Own.blk g cs' T) :=
  ⟨h.chg, h.blk, fun _ hb => Or.inl hb⟩
theorem Chg.of_grown {w w' : World} {row : Option Nat} (h : w.grownBy w' row) : Chg (fun b => row = some b) w w' := ⟨h.os, h.tape, h.output, h.size, fun k hk hS => h.block k hk (fun e => hS e.symm)⟩
theorem row_form {w : World} {B : Nat} {E : TypeId} {size n : Nat} {v : Value} {xs : List Value} (h : w.ownsRow B E size v n xs) (hn : 1 ≤ n) :
    ∃ g cap, v = .slice (some ⟨g, 0, none⟩) n cap ∧ g < w.heap.size ∧ n ≤ cap := by
  rcases h.2 with ⟨_, h0⟩ | ⟨g, cap, cur, rfl, _, hh, hc, _⟩
  · omega
  · exact ⟨g, cap, rfl, Blk.lt hh, hc⟩
/-- Behind an append, a make, a store: the law's own words. -/
theorem Turns.row {w w' : World} {E E' : TypeId} {size size' n n' : Nat} {v v' : Value} {xs ys : List Value} (h : w'.ownsRow 0 E' size' v' n' ys) (hg : w.grownBy w' v.ownBlock) (hat : v'.ownBlock = v.ownBlock ∨ v'.ownBlock = some w.heap.size) :
    Turns w w' (Own.row E size v n xs) (Own.row E' size' v' n' ys) :=
  ⟨Chg.of_grown hg, h, fun b hb => by
    have hb : v'.ownBlock = some b := hb
    rcases hat with e | e
    · exact Or.inl (show v.ownBlock = some b by rw [← e]; exact hb)
    · rw [e] at hb; cases hb; exact Or.inr (Nat.le_refl _)⟩

theorem Turns.row_lit (w : World) (O : Own) (cs : Array Value) (E : TypeId) (size n : Nat) (hm : n ≤ maxLen) (hs : cs.size = n * size) :
    Turns w (w.alloc (.cells cs E)) O (Own.row E size (.slice (some ⟨w.heap.size, 0, none⟩) n n) n cs.toList) :=
  ⟨(Chg.refl _ _).alloc _, World.ownsRow_lit w cs n (Nat.zero_le _) hm hs, fun b hb => by
    have hb : some w.heap.size = some b := hb
    cases hb; exact Or.inr (Nat.le_refl _)⟩
/-- A store into a row. -/
theorem Turns.row_set {w : World} {g cap n : Nat} {E : TypeId} {size : Nat} {xs : List Value} (h : w.ownsRow 0 E size (.slice (some ⟨g, 0, none⟩) n cap) n xs) (j : Nat) (u : Value) :
    Turns w (w.setCell ⟨g, j, none⟩ u) (Own.row E size (.slice (some ⟨g, 0, none⟩) n cap) n xs) (Own.row E size (.slice (some ⟨g, 0, none⟩) n cap) n (xs.set j u)) :=
  have k := h.stored j u
  Turns.row k.1 k.2 (Or.inl rfl)
/-- A store of a struct's cells, as a step of a region that draws. -/
theorem step_store_mid {P : Program} {ops : Array Oper} {o : Oper} {a : Act} {w : World} {K : Act → World → Prop} {Q : Exit → Act → World → Prop} {E : Prop} (hgd : o.guard = none) (ty : TypeId) (x y : Operand) (ho : o.op = .store ty x y)
    (b off : Nat) (cells : Array Value) (hx : a.eval x = .pointer (some ⟨b, off, none⟩)) (hy : a.eval y = .agg cells)
    (ht : w.there b off cells.size) (hi : (P.info? ty).map (·.size) = some cells.size) (h1 : cells.all (·.oneCell') = true)
    (h : K (a.put o.dst undef) (w.setCells b off cells.toList)) : if Region.wanted o (yielded ops a.tmps) = true then Oper.wp P o a w K Q else E := by
  have hw : Region.wanted o (yielded ops a.tmps) = true := by simp [Region.wanted, hgd]
  rw [if_pos hw]
  exact wp_store_mid ty x y ho b off cells hx hy ht hi h1 h

variable {ι : Type}
/-- Things that share no block, all of them newer than w0; what stood in w0 stands. -/
structure Sep (w0 w : World) (F : ι → Own) : Prop where
  bel : Below w0.heap.size w0 w
  all : ∀ i, (F i).holds w
  priv : ∀ i b, (F i).foot b → w0.heap.size ≤ b
  apart : ∀ i j b, (F i).foot b → (F j).foot b → i = j

def upd [DecidableEq ι] (F : ι → Own) (i : ι) (O : Own) : ι → Own := fun j => if j = i then O else F j

theorem Sep.turn [DecidableEq ι] {w0 w w' : World} {F : ι → Own} (h : Sep w0 w F) (i : ι) {O' : Own} (ht : Turns w w' (F i) O') : Sep w0 w' (upd F i O') := by
  refine ⟨?_, fun j => ?_, fun j b hb => ?_, fun j k b hj hk => ?_⟩
  · refine h.bel.trans ⟨ht.chg.os, ht.chg.tape, ht.chg.output, ht.chg.size, fun k hk => ht.chg.block k (Nat.lt_of_lt_of_le hk h.bel.size) (fun hf => ?_)⟩
    have := h.priv i k hf
    omega
  · unfold upd
    split
    · exact ht.now
    · rename_i hne
      exact Own.chg (h.all j) ht.chg (fun b hb hi => hne (h.apart j i b hb hi))
  · unfold upd at hb
    split at hb
    · rcases ht.near b hb with hf | hge
      · exact h.priv i b hf
      · exact Nat.le_trans h.bel.size hge
    · exact h.priv j b hb
  · have key : ∀ j, j ≠ i → (F j).foot b → O'.foot b → False := fun j hne hf ho => by
      rcases ht.near b ho with hf' | hge
      · exact hne (h.apart j i b hf hf')
      · have := (F j).lt (h.all j) b hf
        omega
    unfold upd at hj hk
    split at hj <;> split at hk
    · rename_i e1 e2; rw [e1, e2]
    · rename_i e1 e2; exact (key k e2 hk hj).elim
    · rename_i e1 e2; exact (key j e1 hj hk).elim
    · exact h.apart j k b hj hk
theorem Sep.as {w0 w : World} {F G : ι → Own} (h : Sep w0 w F) (e : ∀ i, F i = G i) : Sep w0 w G := by
  have : F = G := funext e
  exact this ▸ h
theorem Sep.kept {w0 w w' : World} {F : ι → Own} (h : Sep w0 w F) (hc : Chg (fun _ => False) w w') : Sep w0 w' F :=
  ⟨h.bel.trans ⟨hc.os, hc.tape, hc.output, hc.size, fun k hk => hc.block k (Nat.lt_of_lt_of_le hk h.bel.size) id⟩, fun i => Own.chg (h.all i) hc (fun _ _ => id), h.priv, h.apart⟩
theorem Sep.alloc {w0 w : World} {F : ι → Own} (h : Sep w0 w F) (o : Obj) : Sep w0 (w.alloc o) F := h.kept ((Chg.refl _ _).alloc o)
theorem Sep.drew {w0 w : World} {F : ι → Own} (h : Sep w0 w F) : Sep w0 w.drew F := h.kept ((Chg.refl _ _).drew)
theorem Sep.drewN {w0 w : World} {F : ι → Own} (h : Sep w0 w F) (n : Nat) : Sep w0 (w.drewN n) F := h.kept ((Chg.refl _ _).drewN n)
theorem Sep.start (w0 : World) : Sep (ι := ι) w0 w0 (fun _ => Own.emp) := ⟨Below.refl _ _, fun _ => trivial, fun _ _ h => h.elim, fun _ _ _ h => h.elim⟩
/-- A store into a block that none of them takes (a box of the caller's own). -/
theorem Sep.far {w0 w : World} {F : ι → Own} (h : Sep w0 w F) {p : Addr} (hp : w0.heap.size ≤ p.block) (hf : ∀ i, ¬ (F i).foot p.block) (v : Value) : Sep w0 (w.setCell p v) F :=
  ⟨h.bel.setCell hp v, fun i => (F i).stable (h.all i) fun _ hb => Below.heap_setCell _ _ _ _ (fun e => hf i (e ▸ hb)), h.priv, h.apart⟩
end Go.Hp

/- Appending a string's bytes, and where the new slice lies. Plain. -/
namespace Go.Hp
section
variable {P : Program} (w : World)
theorem run_append_string_at (base : Nat) (t u ty e : TypeId) (i : TypeInfo) (ht : P.underlying t = some (.slice e)) (hu : P.underlying u = some .string) (hi : P.info? e = some i) (hz : i.zero = some (.int .u8 0))
    (hsize : i.size = 1) (hby : i.bytes = 1)
    (v : Value) (n : Nat) (xs : List Value) (hown : w.ownsRow base e 1 v n xs) (s : ByteArray)
    (h63 : n + s.size ≤ maxLen) (hbytes : n + s.size ≤ 140737488355328) (hbase : base ≤ w.heap.size) :
    ∃ v' w', (Builtin.append_ #[t, u] ty #[v, .string s]).run P w = .ok v' w' ∧ w'.ownsRow base e 1 v' (n + s.size) (xs ++ Lib.strCells s) ∧ w.grownBy w' v.ownBlock ∧
      (v'.ownBlock = v.ownBlock ∨ v'.ownBlock = some w.heap.size) := by
  obtain ⟨v', w', hr, h1, h2, h3⟩ := Lib.run_append_own_string (P := P) w base t u ty e i ht hu hi hz hsize hby v n xs hown s h63 hbytes hbase
  refine ⟨v', w', hr, h1, h2, ?_⟩
  have hxl : xs.length = n := by simpa using hown.1
  rcases hown.2 with ⟨rfl, rfl⟩ | ⟨g, cap, cur, rfl, hbg, hg, hnc, hcm, hcs, htake⟩
  · by_cases hm : s.size = 0
    · left
      rw [h3.2 ⟨rfl, hm⟩]
    · have hr2 := run_append_nil_string (P := P) w t u ty e i (.int .u8 0) ht hu hi hz s (by omega) (by simp only [maxLen] at h63; omega) (by rw [hby]; omega)
      rw [hr2] at hr
      injection hr with e1 e2
      right
      rw [← e1]; rfl
  · by_cases hroom : n + s.size ≤ cap
    · have hcs' : cur.size = cap := by simpa using hcs
      have hr2 := Lib.run_append_room_string (P := P) w t u ty e i ht hu hi hsize g n cap cur hg s hroom (by omega)
      rw [hr2] at hr
      injection hr with e1 e2
      left
      rw [← e1]; rfl
    · have holds : ∀ j u, xs[j]? = some u → w.cell? ((⟨g, 0, none⟩ : Addr).add j) = some u := World.ownsRow.cells (g := g) (by exact ⟨by simpa using hxl, .inr ⟨g, cap, cur, rfl, hbg, hg, hnc, hcm, hcs, htake⟩⟩ : w.ownsRow base e 1 (.slice (some ⟨g, 0, none⟩) n cap) n xs) rfl
      have hr2 := Lib.run_append_grow_string (P := P) w t u ty e i (.int .u8 0) ht hu hi hz ⟨g, 0, none⟩ n cap xs (by rw [hsize]; simpa using hxl) holds s (by omega) (by simp only [maxLen] at h63; omega) (by rw [hby]; exact growslice_fits (by omega) (by omega))
      rw [hr2] at hr
      injection hr with e1 e2
      right
      rw [← e1]; rfl
theorem wpList_append_string_at {ops : Array Oper} {rest : List Oper} {o : Oper} {a : Act} {Q : Exit → Act → World → Prop} (hgd : o.guard = none) (sl x : Operand) (t u : TypeId)
    (ho : o.op = .call { callee := .builtin .append, args := #[sl, x], argTypes := #[t, u] })
    (base : Nat) (e : TypeId) (i : TypeInfo) (ht : P.underlying t = some (.slice e)) (hu : P.underlying u = some .string) (hi : P.info? e = some i) (hz : i.zero = some (.int .u8 0))
    (hsize : i.size = 1) (hby : i.bytes = 1)
    (v : Value) (n : Nat) (xs : List Value) (hs : a.eval sl = v) (hown : w.ownsRow base e 1 v n xs) (s : ByteArray) (hx : a.eval x = .string s)
    (h63 : n + s.size ≤ maxLen) (hbytes : n + s.size ≤ 140737488355328) (hbase : base ≤ w.heap.size)
    (h : ∀ v' w', w'.ownsRow base e 1 v' (n + s.size) (xs ++ Lib.strCells s) → w.grownBy w' v.ownBlock → (v'.ownBlock = v.ownBlock ∨ v'.ownBlock = some w.heap.size) → wpList P ops Q rest (a.put o.dst v') w') : wpList P ops Q (o :: rest) a w := by
  refine wpList_plain hgd fun K hK => ?_
  obtain ⟨v', w', hr, h2, h3, h4⟩ := run_append_string_at (P := P) w base t u o.type e i ht hu hi hz hsize hby v n xs hown s h63 hbytes hbase
  unfold Oper.wp execOp
  simp only [ho, resolve, invoke, builtin, Sem.run_bind, Sem.run_pure, Result.andThen_ok, List.map_toArray, List.map_cons, List.map_nil, hs, hx, hr]
  exact hK _ _ (h v' w' h2 h3 h4)
/-- A slice value that shows these cells; it may be nil. -/
def Src (w : World) (x : Value) (n size : Nat) (cs : List Value) : Prop :=
  cs.length = n * size ∧ ((∃ c, x = .slice none 0 c ∧ n = 0) ∨ ∃ ad c, x = .slice (some ad) n c ∧ ∀ j u, cs[j]? = some u → w.cell? (ad.add j) = some u)
theorem Src.len {w : World} {x : Value} {n size : Nat} {cs : List Value} (h : Src w x n size cs) : ∃ A c, x = .slice A n c := by
  rcases h.2 with ⟨c, rfl, rfl⟩ | ⟨ad, c, rfl, _⟩
  · exact ⟨_, _, rfl⟩
  · exact ⟨_, _, rfl⟩
theorem Src.of_own {w : World} {base : Nat} {e : TypeId} {size n : Nat} {v : Value} {xs : List Value} (h : w.ownsRow base e size v n xs) : Src w v n size xs := by
  refine ⟨h.1, ?_⟩
  rcases h.2 with ⟨hv, h0⟩ | ⟨g, cap, cur, hv, _⟩
  · exact Or.inl ⟨0, hv, h0⟩
  · exact Or.inr ⟨⟨g, 0, none⟩, cap, hv, h.cells (g := g) (by rw [hv]; rfl)⟩
theorem run_append_src (base : Nat) (t ty e : TypeId) (i : TypeInfo) (z : Value) (size bytes : Nat) (ht : P.underlying t = some (.slice e)) (hi : P.info? e = some i) (hz : i.zero = some z)
    (hsize : i.size = size) (hby : i.bytes = bytes) (hzs : z.cells.size = size) (hsz : 0 < size)
    (v : Value) (n : Nat) (xs : List Value) (hown : w.ownsRow base e size v n xs) (x : Value) (m : Nat) (news : List Value) (hx : Src w x m size news) (h1 : ∀ u ∈ news, u.oneCell' = true)
    (h63 : n + m ≤ maxLen) (hbytes : (n + m) * bytes ≤ 140737488355328) (hbase : base ≤ w.heap.size) :
    ∃ v' w', (Builtin.append_ #[t, t] ty #[v, x]).run P w = .ok v' w' ∧ w'.ownsRow base e size v' (n + m) (xs ++ news) ∧ w.grownBy w' v.ownBlock ∧ (v'.ownBlock = v.ownBlock ∨ v'.ownBlock = some w.heap.size) := by
  obtain ⟨hl, ⟨c, rfl, rfl⟩ | ⟨ad, c, rfl, hc⟩⟩ := hx
  · have hn : news = [] := List.eq_nil_of_length_eq_zero (by simpa using hl)
    subst hn
    refine ⟨v, w, ?_, by simpa using hown, World.grownBy.refl w _, Or.inl rfl⟩
    rcases hown.2 with ⟨rfl, rfl⟩ | ⟨g, cap, cur, rfl, _, _, hnc, _⟩
    · simp [Builtin.append_, run_underlying ht, sizeOf, typeInfo, hi, Builtin.lenOf, Builtin.firstCells]
    · simp [Builtin.append_, run_underlying ht, sizeOf, typeInfo, hi, Builtin.lenOf, Builtin.firstCells, hnc, storeCells]
  · obtain ⟨v', w', hr, h2, h3, _, h5⟩ := run_append_own_at (P := P) w base t ty e i z size bytes ht hi hz hsize hby hzs hsz v n xs hown ad m c news hl hc h1 h63 hbytes hbase
    exact ⟨v', w', hr, h2, h3, h5⟩
theorem wp_append_src {o : Oper} {a : Act} {K : Act → World → Prop} {Q : Exit → Act → World → Prop} (s x : Operand) (t : TypeId)
    (ho : o.op = .call { callee := .builtin .append, args := #[s, x], argTypes := #[t, t] })
    (base : Nat) (e : TypeId) (i : TypeInfo) (z : Value) (size bytes : Nat) (ht : P.underlying t = some (.slice e)) (hi : P.info? e = some i) (hz : i.zero = some z)
    (hsize : i.size = size) (hby : i.bytes = bytes) (hzs : z.cells.size = size) (hsz : 0 < size)
    (v : Value) (n : Nat) (xs : List Value) (hs : a.eval s = v) (hown : w.ownsRow base e size v n xs) (xv : Value) (m : Nat) (news : List Value) (hxe : a.eval x = xv) (hx : Src w xv m size news) (h1 : ∀ u ∈ news, u.oneCell' = true)
    (h63 : n + m ≤ maxLen) (hbytes : (n + m) * bytes ≤ 140737488355328) (hbase : base ≤ w.heap.size)
    (h : ∀ v' w', w'.ownsRow base e size v' (n + m) (xs ++ news) → w.grownBy w' v.ownBlock → (v'.ownBlock = v.ownBlock ∨ v'.ownBlock = some w.heap.size) → K (a.put o.dst v') w') : o.wp P a w K Q := by
  obtain ⟨v', w', hr, h2, h3, h4⟩ := run_append_src (P := P) w base t o.type e i z size bytes ht hi hz hsize hby hzs hsz v n xs hown xv m news hx h1 h63 hbytes hbase
  unfold Oper.wp execOp
  simp only [ho, resolve, invoke, builtin, Sem.run_bind, Sem.run_pure, Result.andThen_ok, List.map_toArray, List.map_cons, List.map_nil, hs, hxe, hr]
  exact h v' w' h2 h3 h4
theorem wpList_append_src {ops : Array Oper} {rest : List Oper} {o : Oper} {a : Act} {Q : Exit → Act → World → Prop} (hgd : o.guard = none) (s x : Operand) (t : TypeId)
    (ho : o.op = .call { callee := .builtin .append, args := #[s, x], argTypes := #[t, t] })
    (base : Nat) (e : TypeId) (i : TypeInfo) (z : Value) (size bytes : Nat) (ht : P.underlying t = some (.slice e)) (hi : P.info? e = some i) (hz : i.zero = some z)
    (hsize : i.size = size) (hby : i.bytes = bytes) (hzs : z.cells.size = size) (hsz : 0 < size)
    (v : Value) (n : Nat) (xs : List Value) (hs : a.eval s = v) (hown : w.ownsRow base e size v n xs) (xv : Value) (m : Nat) (news : List Value) (hxe : a.eval x = xv) (hx : Src w xv m size news) (h1 : ∀ u ∈ news, u.oneCell' = true)
    (h63 : n + m ≤ maxLen) (hbytes : (n + m) * bytes ≤ 140737488355328) (hbase : base ≤ w.heap.size)
    (h : ∀ v' w', w'.ownsRow base e size v' (n + m) (xs ++ news) → w.grownBy w' v.ownBlock → (v'.ownBlock = v.ownBlock ∨ v'.ownBlock = some w.heap.size) → wpList P ops Q rest (a.put o.dst v') w') : wpList P ops Q (o :: rest) a w :=
  wpList_plain hgd fun _ hK => wp_append_src w s x t ho base e i z size bytes ht hi hz hsize hby hzs hsz v n xs hs hown xv m news hxe hx h1 h63 hbytes hbase fun v' w' h2 h3 h4 => hK _ _ (h v' w' h2 h3 h4)
/-- A copy of all cells into a row of the same length. -/
theorem wpList_copy_all {ops : Array Oper} {rest : List Oper} {o : Oper} {a : Act} {Q : Exit → Act → World → Prop} (hgd : o.guard = none) (d s : Operand) (dT sT : TypeId)
    (ho : o.op = .call { callee := .builtin .copy, args := #[d, s], argTypes := #[dT, sT] }) (e : TypeId) (hu : P.underlying dT = some (.slice e)) (hsz : (P.info? e).map (·.size) = some 1)
    (dv : Value) (base n : Nat) (zs : List Value) (hd : a.eval d = dv) (hown : w.ownsRow base e 1 dv n zs) (sv : Value) (cs : List Value) (hs : a.eval s = sv) (hsrc : Src w sv n 1 cs) (h1 : ∀ u ∈ cs, u.oneCell' = true)
    (h : ∀ w', w'.ownsRow base e 1 dv n cs → w.grownBy w' dv.ownBlock → wpList P ops Q rest (a.put o.dst (goInt n)) w') : wpList P ops Q (o :: rest) a w := by
  have hcl : cs.length = n := by simpa using hsrc.1
  have hzl : zs.length = n := by simpa using hown.1
  rcases Nat.eq_zero_or_pos n with h0 | h0
  · subst h0
    obtain ⟨sp, sc, hsv⟩ := hsrc.len
    have hdv : ∃ dp dc, dv = .slice dp 0 dc := by
      rcases hown.2 with ⟨hv, _⟩ | ⟨g, cap, cur, hv, _⟩
      · exact ⟨_, _, hv⟩
      · exact ⟨_, _, hv⟩
    obtain ⟨dp, dc, hdv⟩ := hdv
    refine wpList_copy_nothing hgd d s dT sT ho e hu hsz dp sp 0 dc 0 sc (hd.trans hdv) (hs.trans hsv) rfl ?_
    have hcs : cs = [] := List.eq_nil_of_length_eq_zero hcl
    have hzs : zs = [] := List.eq_nil_of_length_eq_zero hzl
    subst hcs hzs
    exact h w hown (World.grownBy.refl w _)
  · obtain ⟨_, ⟨c, _, h00⟩ | ⟨ad, c, hsv, hc⟩⟩ := hsrc
    · omega
    rcases hown.2 with ⟨_, h00⟩ | ⟨g, cap, cur, hv, hb, hg, hnc, hcm, hcs, htake⟩
    · omega
    have hcs' : cur.size = cap := by simpa using hcs
    refine wpList_copy_own hgd d s dT sT ho e hu hsz g 0 n cap ad n c (hd.trans hv) (hs.trans hsv) cur e hg cs (by rw [hcl]; exact (Nat.min_self n).symm) hc (by omega) h1 ?_
    rw [hcl]
    refine h _ ⟨by simpa using hcl, Or.inr ⟨g, cap, _, hv, hb, setRow_heap w g cur _ e _ hg, hnc, hcm, ?_, ?_⟩⟩ ⟨rfl, rfl, rfl, by simp [World.setRow], fun k _ hk => setRow_other w g k _ (fun e => hk (by simp [hv, Value.ownBlock, e]))⟩
    · simp only [List.size_toArray, List.length_append, List.length_take, List.length_drop, Array.length_toList, hcl]
      omega
    · simp only [List.take_zero, List.nil_append, Nat.mul_one]
      rw [← hcl]
      exact List.take_left
end
end Go.Hp

/- Append, make and copy, as steps of things in memory. Plain. -/
namespace Go.Hp
open Go.RowKit

theorem Turns.kept {w w' W : World} {O O' : Own} (h : Turns w w' O O') (hc : Chg (fun _ => False) w' W) : Turns w W O O' :=
  h.trans ⟨hc.mono fun _ _ hf => hf.elim, Own.chg h.now hc (fun _ _ hf => hf), fun _ hb => Or.inl hb⟩
theorem Turns.of_kept {w W : World} {O : Own} (h : O.holds w) (hc : Chg (fun _ => False) w W) : Turns w W O O := (Turns.refl h).kept hc
theorem Turns.left {w w' : World} {A O O' : Own} (h : (Own.both O A).holds w) (t : Turns w w' O O') : Turns w w' (Own.both O A) (Own.both O' A) :=
  ⟨t.chg.mono fun _ _ hf => Or.inl hf, ⟨t.now, Own.chg h.2.1 t.chg (fun b h1 h2 => h.2.2 b h2 h1), fun b h1 h2 => (t.near b h1).elim (fun hf => h.2.2 b hf h2) (fun hge => by have := A.lt h.2.1 b h2; omega)⟩,
    fun b hb => hb.elim (fun h1 => (t.near b h1).elim (fun hf => Or.inl (Or.inl hf)) Or.inr) (fun h2 => Or.inl (Or.inr h2))⟩
theorem Turns.rightT {w w' : World} {A O O' : Own} (h : (Own.both A O).holds w) (t : Turns w w' O O') : Turns w w' (Own.both A O) (Own.both A O') :=
  ⟨t.chg.mono fun _ _ hf => Or.inr hf, ⟨Own.chg h.1 t.chg (fun b h1 h2 => h.2.2 b h1 h2), t.now, fun b h1 h2 => (t.near b h2).elim (fun hf => h.2.2 b h1 hf) (fun hge => by have := A.lt h.1 b h1; omega)⟩,
    fun b hb => hb.elim (fun h1 => Or.inl (Or.inl h1)) (fun h2 => (t.near b h2).elim (fun hf => Or.inl (Or.inr hf)) Or.inr)⟩
/-- A new thing beside what is there. -/
theorem Turns.add {w w' : World} {O A : Own} (h : O.holds w) (t : Turns w w' Own.emp A) : Turns w w' O (Own.both A O) :=
  ⟨t.chg.mono fun _ _ hf => hf.elim, ⟨t.now, Own.chg h t.chg (fun _ _ hf => hf), fun b h1 h2 => (t.near b h1).elim (fun hf => hf) (fun hge => by have := O.lt h b h2; omega)⟩,
    fun b hb => hb.elim (fun h1 => (t.near b h1).elim (fun hf => hf.elim) Or.inr) Or.inl⟩
theorem Turns.dropL {w w' : World} {O A B : Own} (h : Turns w w' O (Own.both A B)) : Turns w w' O B := ⟨h.chg, h.now.2.1, fun b hb => h.near b (Or.inr hb)⟩
theorem Turns.dropR {w w' : World} {O A B : Own} (h : Turns w w' O (Own.both A B)) : Turns w w' O A := ⟨h.chg, h.now.1, fun b hb => h.near b (Or.inl hb)⟩
theorem Turns.emptied {w w' : World} {O A : Own} (h : Turns w w' O A) : Turns w w' O Own.emp := ⟨h.chg, trivial, fun _ hb => hb.elim⟩
theorem Turns.swap {w w' : World} {O A B : Own} (h : Turns w w' O (Own.both A B)) : Turns w w' O (Own.both B A) :=
  ⟨h.chg, ⟨h.now.2.1, h.now.1, fun b h1 h2 => h.now.2.2 b h2 h1⟩, fun b hb => h.near b (hb.elim Or.inr Or.inl)⟩

theorem Turns.addNil {w w' : World} {O A : Own} (h : Turns w w' O A) (E : TypeId) (size : Nat) : Turns w w' O (Own.both A (Own.row E size (.slice none 0 0) 0 [])) :=
  ⟨h.chg, ⟨h.now, World.ownsRow_nil _ _ _ _, fun b _ h2 => by cases h2⟩, fun b hb => hb.elim (h.near b) (fun h2 => by cases h2)⟩
theorem Blk.four {w : World} {b : Nat} {a0 a1 a2 a3 : Value} {T : TypeId} (h : Blk w b #[a0, a1, a2, a3] T) :
    w.cell? ⟨b, 0, none⟩ = some a0 ∧ w.cell? ⟨b, 1, none⟩ = some a1 ∧ w.cell? ⟨b, 2, none⟩ = some a2 ∧ w.cell? ⟨b, 3, none⟩ = some a3 ∧
    w.frozen? ⟨b, 0, none⟩ = false ∧ w.frozen? ⟨b, 1, none⟩ = false ∧ w.frozen? ⟨b, 2, none⟩ = false ∧ w.frozen? ⟨b, 3, none⟩ = false :=
  ⟨h.cell 0, h.cell 1, h.cell 2, h.cell 3, h.frozen 0, h.frozen 1, h.frozen 2, h.frozen 3⟩
/-- A block that is new stands while a thing that was there turns. -/
theorem Blk.beside {w W w' : World} {O O' : Own} {b : Nat} {cs : Array Value} {T : TypeId} (hO : O.holds w) (h : Blk W b cs T) (hb : w.heap.size ≤ b) (ht : Turns W w' O O') : Blk w' b cs T :=
  h.chg ht.chg (fun hf => by have := O.lt hO b hf; omega)
/-- Boxes that were made ahead of a step may be written behind it. -/
theorem Turns.boxes {w W w1 w2 : World} {O O' : Own} (h : O.holds w) (hw : Chg (fun _ => False) w W) (ht : Turns W w1 O O') (hc : Chg (fun b => w.heap.size ≤ b ∧ b < W.heap.size) w1 w2) : Turns w w2 O O' := by
  have hn : ∀ b, O'.foot b → ¬ (w.heap.size ≤ b ∧ b < W.heap.size) := fun b hb hx => by
    rcases ht.near b hb with hf | hge
    · have := O.lt h b hf; omega
    · omega
  refine ⟨?_, Own.chg ht.now hc hn, fun b hb => (ht.near b hb).elim Or.inl (fun hge => Or.inr (Nat.le_trans hw.size hge))⟩
  refine ⟨hc.os.trans (ht.chg.os.trans hw.os), hc.tape.trans (ht.chg.tape.trans hw.tape), hc.output.trans (ht.chg.output.trans hw.output), Nat.le_trans hw.size (Nat.le_trans ht.chg.size hc.size), fun k hk hS => ?_⟩
  have hkW : k < W.heap.size := Nat.lt_of_lt_of_le hk hw.size
  exact (hc.block k (Nat.lt_of_lt_of_le hkW ht.chg.size) (by omega)).trans ((ht.chg.block k hkW hS).trans (hw.block k hk id))
/-- A row's slice value, given in full. -/
theorem row_slice {w : World} {E : TypeId} {size n : Nat} {v : Value} {xs : List Value} (h : w.ownsRow 0 E size v n xs) : ∃ A c, v = .slice A n c := (Src.of_own h).len

section
variable {P : Program} (w : World)
/-- One element behind a row. -/
theorem wpList_app1 {ops : Array Oper} {rest : List Oper} {o : Oper} {a : Act} {Q : Exit → Act → World → Prop} (hgd : o.guard = none) (s x : Operand) (t : TypeId)
    (ho : o.op = .call { callee := .builtin .append, args := #[s, x], argTypes := #[t, t] })
    (e : TypeId) (i : TypeInfo) (z : Value) (size bytes : Nat) (ht : P.underlying t = some (.slice e)) (hi : P.info? e = some i) (hz : i.zero = some z)
    (hsize : i.size = size) (hby : i.bytes = bytes) (hzs : z.cells.size = size) (hsz : 0 < size)
    (v : Value) (n : Nat) (xs : List Value) (hs : a.eval s = v) (cs : Array Value) (T : TypeId) (b0 : Nat) (hx : a.eval x = .slice (some ⟨b0, 0, none⟩) 1 1) (hb0 : b0 = w.heap.size) (hown : w.ownsRow 0 e size v n xs)
    (hcs : cs.size = size) (h1 : ∀ u ∈ cs.toList, u.oneCell' = true)
    (h63 : n + 1 ≤ maxLen) (hbytes : (n + 1) * bytes ≤ 140737488355328)
    (h : ∀ g c w', n + 1 ≤ c → Turns w w' (Own.row e size v n xs) (Own.row e size (.slice (some ⟨g, 0, none⟩) (n + 1) c) (n + 1) (xs ++ cs.toList)) →
      wpList P ops Q rest (a.put o.dst (.slice (some ⟨g, 0, none⟩) (n + 1) c)) w') :
    wpList P ops Q (o :: rest) a (w.alloc (.cells cs T)) := by
  subst hb0
  have hT : Turns w (w.alloc (.cells cs T)) (Own.row e size v n xs) (Own.row e size v n xs) := Turns.alloc (Turns.refl (O := Own.row e size v n xs) hown) _
  refine wpList_append_own_at (w := w.alloc (.cells cs T)) hgd s x t ho 0 e i z size bytes ht hi hz hsize hby hzs hsz v n xs hs hT.now ⟨w.heap.size, 0, none⟩ 1 1 cs.toList hx (by simp [hcs]) ?_ h1 h63 hbytes (Nat.zero_le _) ?_
  · intro j u hj
    have ha : (⟨w.heap.size, 0, none⟩ : Addr).add j = ⟨w.heap.size, j, none⟩ := by unfold Addr.add; split <;> simp_all
    rw [ha, (Blk.new w cs T).cell]
    simpa using hj
  · intro v' w' ho' hg' _ hat
    have ho2 : w'.ownsRow 0 e size v' (n + 1) (xs ++ cs.toList) := ho'
    obtain ⟨g, c, rfl, _, hc⟩ := row_form ho2 (by omega)
    exact h g c w' hc (hT.trans (Turns.row ho2 hg' hat))
/-- What a slice shows, behind a row. -/
theorem wpList_appS {ops : Array Oper} {rest : List Oper} {o : Oper} {a : Act} {Q : Exit → Act → World → Prop} (hgd : o.guard = none) (s x : Operand) (t : TypeId)
    (ho : o.op = .call { callee := .builtin .append, args := #[s, x], argTypes := #[t, t] })
    (e : TypeId) (i : TypeInfo) (z : Value) (size bytes : Nat) (ht : P.underlying t = some (.slice e)) (hi : P.info? e = some i) (hz : i.zero = some z)
    (hsize : i.size = size) (hby : i.bytes = bytes) (hzs : z.cells.size = size) (hsz : 0 < size)
    (v : Value) (n : Nat) (xs : List Value) (hs : a.eval s = v) (hown : w.ownsRow 0 e size v n xs) (xv : Value) (m : Nat) (news : List Value) (hxe : a.eval x = xv) (hx : Src w xv m size news) (h1 : ∀ u ∈ news, u.oneCell' = true)
    (h63 : n + m ≤ maxLen) (hbytes : (n + m) * bytes ≤ 140737488355328)
    (h : ∀ A c w', Turns w w' (Own.row e size v n xs) (Own.row e size (.slice A (n + m) c) (n + m) (xs ++ news)) → wpList P ops Q rest (a.put o.dst (.slice A (n + m) c)) w') :
    wpList P ops Q (o :: rest) a w :=
  wpList_append_src w hgd s x t ho 0 e i z size bytes ht hi hz hsize hby hzs hsz v n xs hs hown xv m news hxe hx h1 h63 hbytes (Nat.zero_le _) fun v' w' ho' hg' hat => by
    obtain ⟨A, c, rfl⟩ := row_slice ho'
    exact h A c w' (Turns.row ho' hg' hat)
/-- A string's bytes, behind a row. -/
theorem wpList_appStr {ops : Array Oper} {rest : List Oper} {o : Oper} {a : Act} {Q : Exit → Act → World → Prop} (hgd : o.guard = none) (sl x : Operand) (t u : TypeId)
    (ho : o.op = .call { callee := .builtin .append, args := #[sl, x], argTypes := #[t, u] })
    (e : TypeId) (i : TypeInfo) (ht : P.underlying t = some (.slice e)) (hu : P.underlying u = some .string) (hi : P.info? e = some i) (hz : i.zero = some (.int .u8 0))
    (hsize : i.size = 1) (hby : i.bytes = 1)
    (v : Value) (n : Nat) (xs : List Value) (hs : a.eval sl = v) (hown : w.ownsRow 0 e 1 v n xs) (s : ByteArray) (hx : a.eval x = .string s)
    (h63 : n + s.size ≤ maxLen) (hbytes : n + s.size ≤ 140737488355328)
    (h : ∀ A c w', Turns w w' (Own.row e 1 v n xs) (Own.row e 1 (.slice A (n + s.size) c) (n + s.size) (xs ++ Lib.strCells s)) → wpList P ops Q rest (a.put o.dst (.slice A (n + s.size) c)) w') : wpList P ops Q (o :: rest) a w :=
  wpList_append_string_at w hgd sl x t u ho 0 e i ht hu hi hz hsize hby v n xs hs hown s hx h63 hbytes (Nat.zero_le _) fun v' w' ho' hg' hat => by
    obtain ⟨A, c, rfl⟩ := row_slice ho'
    exact h A c w' (Turns.row ho' hg' hat)
/-- A row that is made. -/
theorem wpList_makeT {ops : Array Oper} {rest : List Oper} {o : Oper} {a : Act} {Q : Exit → Act → World → Prop} (hg : o.guard = none) (l c : Operand) (t : TypeId) (hop : o.op = Op.makeSlice t l c)
    (e : TypeId) (i : TypeInfo) (z : Value) (size : Nat) (h1 : P.underlying t = some (.slice e)) (h2 : P.info? e = some i) (h3 : i.zero = some z) (h4 : i.size = size)
    (kl kc : IntKind) (L C : Int) (n : Nat) (hl : a.eval l = .int kl L) (hc : a.eval c = .int kc C) (hL : L = (n : Int)) (hC : C = (n : Int)) (b2 : i.bytes * n ≤ 281474976710656) (b3 : n ≤ maxLen)
    (hK : ∀ w', Turns w w' Own.emp (Own.row e size (.slice (some ⟨w.heap.size, 0, none⟩) n n) n (madeCells z.cells (n * size)).toList) → wpList P ops Q rest (a.put o.dst (.slice (some ⟨w.heap.size, 0, none⟩) n n)) w') :
    wpList P ops Q (o :: rest) a w :=
  wpList_make_full w hg l c t hop 0 e i z size h1 h2 h3 h4 kl kc L C n hl hc hL hC b2 b3 (Nat.zero_le _) fun w' ho hgr => hK w' ⟨Chg.mono (Chg.of_grown hgr) (fun _ _ h => by cases h), ho, fun b hb => by
    have hb : some w.heap.size = some b := hb
    cases hb; exact Or.inr (Nat.le_refl _)⟩
/-- A copy of all cells into a row of the same length. -/
theorem wpList_copyT {ops : Array Oper} {rest : List Oper} {o : Oper} {a : Act} {Q : Exit → Act → World → Prop} (hgd : o.guard = none) (d s : Operand) (dT sT : TypeId)
    (ho : o.op = .call { callee := .builtin .copy, args := #[d, s], argTypes := #[dT, sT] }) (e : TypeId) (hu : P.underlying dT = some (.slice e)) (hsz : (P.info? e).map (·.size) = some 1)
    (dv : Value) (n : Nat) (zs : List Value) (hd : a.eval d = dv) (hown : w.ownsRow 0 e 1 dv n zs) (sv : Value) (cs : List Value) (hs : a.eval s = sv) (hsrc : Src w sv n 1 cs) (h1 : ∀ u ∈ cs, u.oneCell' = true)
    (h : ∀ w', Turns w w' (Own.row e 1 dv n zs) (Own.row e 1 dv n cs) → wpList P ops Q rest (a.put o.dst (goInt n)) w') : wpList P ops Q (o :: rest) a w :=
  wpList_copy_all w hgd d s dT sT ho e hu hsz dv 0 n zs hd hown sv cs hs hsrc h1 fun w' ho hg => h w' (Turns.row ho hg (Or.inl rfl))
end
end Go.Hp

/- Package roll: items copied, what may be. -/
namespace Go.Proofs.Ytkpgdonpmfebaaa.Rl
open Go.RowKit Go.Hp
attribute [local go_sem] min2_lean min_two max2_lean max_two
set_option linter.unusedSimpArgs false
set_option linter.unusedVariables false
set_option maxRecDepth 100000
theorem Try.info9 : (Try.prog.info? 9).map (fun i => (i.zero, i.size, i.bytes)) = some (some (.string ByteArray.empty), 1, 16) := by kernel_rfl
/-- What a row says, but for its items. -/
structure RwA where
  num : Int
  at_ : Int
  code : Int
  n : Int
  its : List ByteArray
def RwA.cells (r : RwA) (v : Value) : Array Value := #[.int .i64 r.num, .int .i64 r.at_, .int .i64 r.code, .int .i64 r.n, v]
def its (A : Option Addr) (n c : Nat) (xs : List ByteArray) : Hp.Own := Hp.Own.row 9 1 (.slice A n c) n (xs.map Value.string)
theorem one_strs (xs : List ByteArray) : ∀ u ∈ xs.map Value.string, u.oneCell' = true := fun u hu => by obtain ⟨b, _, rfl⟩ := List.mem_map.1 hu; rfl
theorem Src.keep0 {w w' : World} {x : Value} {n size : Nat} {cs : List Value} (h : Src w x n size cs) (hc : Chg (fun _ => False) w w') : Src w' x n size cs := by
  refine ⟨h.1, ?_⟩
  rcases h.2 with h | ⟨ad, c, rfl, hcell⟩
  · exact Or.inl h
  · refine Or.inr ⟨ad, c, rfl, fun j u hu => ?_⟩
    have hl : (ad.add j).block < w.heap.size := by
      rcases Nat.lt_or_ge (ad.add j).block w.heap.size with hlt | hge
      · exact hlt
      · have h1 : w.heap[(ad.add j).block]? = none := Array.getElem?_eq_none hge
        have h2 := hcell j u hu
        simp [World.cell?, h1] at h2
    exact (hc.cell hl (fun h => h)).trans (hcell j u hu)
theorem clone_any (A : Option Addr) (n c : Nat) (xs : List ByteArray) (w : World) (hx : Src w (.slice A n c) n 1 (xs.map Value.string)) (hn : n * 16 ≤ 140737488355328) :
    Calls Try.prog 101 #[.slice A n c] w fun r w' => ∃ A' c', r = .returned (.slice A' n c') ∧ Turns w w' Hp.Own.emp (its A' n c' xs) := by
  have HX := Lib.hid hx
  have HL := Lib.hid (Turns.row_lit w Hp.Own.emp #[] 9 1 0 (by simp [maxLen]) rfl)
  have HX2 : Hid (Src (w.alloc (.cells #[] 9)) (.slice A n c) n 1 (xs.map Value.string)) := Lib.hid (Src.keep0 hx ((Chg.refl (fun _ => False) w).alloc _))
  obtain ⟨i0, hi0, hza0, hzb0, hzc0⟩ := info_parts Try.info9
  have hnil := fun (w : World) A n c => Lib.run_eql_slice_nil (P := Try.prog) w 71 9 A n c 0 0 Try.underlying71
  cases A with
  | none =>
    have h0 : n = 0 := by
      rcases hx.2 with ⟨c', h, _⟩ | ⟨ad, c', h, _⟩
      · injection h
      · injection h with h1; cases h1
    subst h0
    have hxs : xs = [] := by have := hx.1; simpa using this
    subst hxs
    clear hx
    go_enter Try.func101, Try.ntmps101
    go_wp2_with fail
    go_ret
    exact ⟨none, 0, rfl, ⟨Chg.refl _ _, World.ownsRow_nil _ _ _ _, fun b hb => by cases hb⟩⟩
  | some ad =>
    clear hx
    go_enter Try.func101, Try.ntmps101
    go_wp2_with (at_builtin; refine wpList_appS _ rfl (.tmp 5) (.tmp 6) 71 rfl 9 i0 (.string ByteArray.empty) 1 16 Try.underlying71 hi0 hza0 hzb0 hzc0 rfl (by decide) _ 0 [] rfl HL.out.now _ n (xs.map Value.string) rfl HX2.out (one_strs xs) (by simp only [maxLen]; omega) (by omega) ?_; intro A5 c5 w5 ht5; have HT5 := Lib.hid ht5; clear ht5)
    go_ret
    have h5 : Turns w w5 Hp.Own.emp (its A5 n c5 xs) := by
      have := HL.out.trans HT5.out
      unfold its
      simpa using this
    exact ⟨A5, c5, by simp [Array.getD], h5⟩
/-- Which results may be. -/
def chk (code n : Int) (xs : List ByteArray) : Int :=
  if code < 0 ∨ 4 < code then 50 else if code ≠ 0 ∧ (n ≠ 0 ∨ 0 < xs.length) then 55 else if n < 0 ∨ 1099511627776 < n then 53 else if 8 < xs.length then 54 else if ∃ s ∈ xs, 64 < s.size then 52 else 0
theorem src_at {A : Option Addr} {n c : Nat} {xs : List ByteArray} {w : World} (h : Src w (.slice A n c) n 1 (xs.map Value.string)) (i : Nat) (hi : i < xs.length) : ∃ ad, A = some ad ∧ w.cell? (ad.add i) = some (.string xs[i]) := by
  have hl : xs.length = n := by have := h.1; simpa using this
  rcases h.2 with ⟨c', h, h0⟩ | ⟨ad, c', h, hc⟩
  · omega
  · injection h with h1
    exact ⟨ad, h1, hc i _ (by simp [hi])⟩
theorem check_any (code n : Int) (A : Option Addr) (m c : Nat) (xs : List ByteArray) (w : World) (hx : Src w (.slice A m c) m 1 (xs.map Value.string)) :
    Calls Try.prog 102 #[.agg #[.int .i64 code, .int .i64 n, .slice A m c]] w fun r w' => r = .returned (.int .i64 (chk code n xs)) ∧ Chg (fun _ => False) w w' := by
  have hm : xs.length = m := by have := hx.1; simpa using this
  have HC := Lib.hid ((Chg.refl (fun _ => False) w).alloc (.cells #[.int .i64 code, .int .i64 n, .slice A m c] 73))
  have HX := Lib.hid (Src.keep0 hx HC.out)
  have HM := Lib.hid hm
  have hE : chk code n xs = (if code < 0 ∨ 4 < code then 50 else if code ≠ 0 ∧ (n ≠ 0 ∨ 0 < m) then 55 else if n < 0 ∨ 1099511627776 < n then 53 else if 8 < m then 54 else if ∃ s ∈ xs, 64 < s.size then 52 else 0) := by unfold chk; rw [hm]
  rw [hE]
  clear hx hm hE
  by_cases h1 : code < 0 ∨ 4 < code
  · rw [if_pos h1]
    have e1 : (decide (code < 0) = true ∧ True) ∨ (decide (code < 0) = false ∧ decide (4 < code) = true) := by
      rcases (show code < 0 ∨ 0 ≤ code by omega) with h | h
      · left; exact ⟨by simpa using h, trivial⟩
      · right; exact ⟨by simp; omega, by simp; omega⟩
    clear h1
    rcases e1 with ⟨e1, e2⟩ | ⟨e1, e2⟩
    all_goals
      go_enter Try.func102, Try.ntmps102
      go_wp2_with fail
      go_ret
      exact ⟨rfl, (Chg.refl _ w).alloc _⟩
  · rw [if_neg h1]
    have e1 : decide (code < 0) = false := by simp; omega
    have e2 : decide (4 < code) = false := by simp; omega
    clear h1
    by_cases h2 : code ≠ 0 ∧ (n ≠ 0 ∨ 0 < m)
    · rw [if_pos h2]
      have e3 : (code != 0) = true := by simpa using h2.1
      have e4 : ((n != 0) = true ∧ True) ∨ ((n != 0) = false ∧ 0 < m) := by
        by_cases h : n = 0
        · right; exact ⟨by simpa using h, by rcases h2.2 with h3 | h3; exact absurd h h3; exact h3⟩
        · left; exact ⟨by simpa using h, trivial⟩
      clear h2
      rcases e4 with ⟨e4, e5⟩ | ⟨e4, e5⟩
      all_goals
        have e6 : decide (0 < (m : Int)) = decide (0 < m) := by simp
        go_enter Try.func102, Try.ntmps102
        go_wp2_with fail
        go_ret
        exact ⟨rfl, (Chg.refl _ w).alloc _⟩
    · rw [if_neg h2]
      have e3 : ((code != 0) = false ∧ True ∧ True) ∨ ((code != 0) = true ∧ (n != 0) = false ∧ m = 0) := by
        by_cases h : code = 0
        · left; exact ⟨by simpa using h, trivial, trivial⟩
        · right
          have h3 : ¬ (n ≠ 0 ∨ 0 < m) := fun h4 => h2 ⟨h, h4⟩
          have h5 : n = 0 := Decidable.byContradiction fun h6 => h3 (Or.inl h6)
          exact ⟨by simpa using h, by simpa using h5, by omega⟩
      clear h2
      by_cases h3 : n < 0 ∨ 1099511627776 < n
      · rw [if_pos h3]
        have e4 : (decide (n < 0) = true ∧ True) ∨ (decide (n < 0) = false ∧ decide (1099511627776 < n) = true) := by
          rcases (show n < 0 ∨ 0 ≤ n by omega) with h | h
          · left; exact ⟨by simpa using h, trivial⟩
          · right; exact ⟨by simp; omega, by simp; omega⟩
        clear h3
        rcases e4 with ⟨e4, e5⟩ | ⟨e4, e5⟩ <;> rcases e3 with ⟨e3, e6, e7⟩ | ⟨e3, e6, e7⟩
        all_goals
          go_enter Try.func102, Try.ntmps102
          go_wp2_with fail
          go_ret
          exact ⟨rfl, (Chg.refl _ w).alloc _⟩
      · rw [if_neg h3]
        have e4 : decide (n < 0) = false := by simp; omega
        have e5 : decide (1099511627776 < n) = false := by simp; omega
        clear h3
        by_cases h4 : 8 < m
        · rw [if_pos h4]
          have e8 : decide (8 < (m : Int)) = true := by simp; omega
          rcases e3 with ⟨e3, e6, e7⟩ | ⟨e3, e6, e7⟩
          all_goals
            first
              | (exfalso; omega)
              | (go_enter Try.func102, Try.ntmps102
                 go_wp2_with fail
                 go_ret
                 exact ⟨rfl, (Chg.refl _ w).alloc _⟩)
        · rw [if_neg h4]
          have e8 : decide (8 < (m : Int)) = false := by simp; omega
          have hm8 : m ≤ 8 := by omega
          obtain ⟨res, hres⟩ : ∃ z : Int, z = (if ∃ s ∈ xs, 64 < s.size then 52 else 0) := ⟨_, rfl⟩
          rw [← hres]
          have HR := Lib.hid hres
          clear hres
          rcases e3 with ⟨e3, e6, e7⟩ | ⟨e3, e6, e7⟩
          · clear e6 e7
            go_enter Try.func102, Try.ntmps102
            go_wp2_with fail
            go_loopw [46] (fun x46 wr => ∃ i : Nat, x46 = .int .i64 i ∧ i ≤ m ∧ (∀ j (h : j < xs.length), j < i → xs[j].size ≤ 64) ∧ w.alloc (.cells #[.int .i64 code, .int .i64 n, .slice A m c] 73) = wr) (fun x46 _ => m - (intOf x46).toNat)
            case atStart => exact ⟨0, rfl, Nat.zero_le _, fun j h hj => absurd hj (by omega), rfl⟩
            case round =>
              obtain ⟨i, rfl, him, hsz, rfl⟩ := hrel
              have HSZ := Lib.hid hsz
              clear hsz
              by_cases hlt : i < m
              · have hd : decide ((i : Int) < (m : Int)) = true := by simp; omega
                have hd' : decide (i < m) = true := by simpa using hlt
                have hil : i < xs.length := by rw [HM.out]; exact hlt
                obtain ⟨ad, rfl, hc⟩ := src_at HX.out i hil
                have HIN := Lib.hid (List.getElem_mem hil)
                have HXI := Lib.hid (fun z (h : xs[i].size = z) => h)
                obtain ⟨z, hz⟩ : ∃ z, xs[i].size = z := ⟨_, rfl⟩
                have HZ := Lib.hid hz
                by_cases hb : 64 < z
                · have e9 : decide (64 < (z : Int)) = true := by simp; omega
                  have HR5 : Hid (res = 52) := Lib.hid (by rw [HR.out, if_pos ⟨xs[i], HIN.out, by rw [hz]; exact hb⟩])
                  generalize xs[i] = b at *
                  clear HIN HXI
                  go_wp2_with fail
                  go_ret
                  rw [HR5.out]
                  exact ⟨rfl, (Chg.refl _ w).alloc _⟩
                · have e9 : decide (64 < (z : Int)) = false := by simp; omega
                  have HNX : Hid (∀ j (h : j < xs.length), j < i + 1 → xs[j].size ≤ 64) := Lib.hid fun j h hj => by
                    by_cases e : j = i
                    · subst e; rw [HZ.out]; omega
                    · exact HSZ.out j h (by omega)
                  generalize xs[i] = b at *
                  clear HIN HXI
                  go_wp2_with fail
                  go_roundw
                  case rel => exact ⟨i + 1, by simp, by omega, HNX.out, trivial⟩
                  case measure => simp [intOf]; omega
              · have hd : decide ((i : Int) < (m : Int)) = false := by simp; omega
                have hd' : decide (i < m) = false := by simpa using hlt
                have HR0 : Hid (res = 0) := Lib.hid (by
                  rw [HR.out, if_neg (fun ⟨b, hb, h⟩ => by
                    obtain ⟨j, hj, rfl⟩ := List.getElem_of_mem hb
                    have := HSZ.out j hj (by have := HM.out; omega)
                    omega)])
                go_wp2_with fail
                go_ret
                rw [HR0.out]
                exact ⟨rfl, (Chg.refl _ w).alloc _⟩
          · subst e7
            have hx0 : xs = [] := List.eq_nil_of_length_eq_zero HM.out
            have HR0 : Hid (res = 0) := Lib.hid (by rw [HR.out, hx0]; simp)
            clear hx0
            go_enter Try.func102, Try.ntmps102
            go_wp2_with fail
            go_loopw [46] (fun x46 wr => x46 = .int .i64 0 ∧ w.alloc (.cells #[.int .i64 code, .int .i64 n, .slice A 0 c] 73) = wr) (fun x46 _ => 0)
            case atStart => exact ⟨rfl, rfl⟩
            case round =>
              obtain ⟨rfl, rfl⟩ := hrel
              go_wp2_with fail
              go_ret
              rw [HR0.out]
              exact ⟨rfl, (Chg.refl _ w).alloc _⟩
end Go.Proofs.Ytkpgdonpmfebaaa.Rl

/- Package roll: a row copied; which rows may be. -/
namespace Go.Proofs.Ytkpgdonpmfebaaa.Rl
open Go.RowKit Go.Hp
attribute [local go_sem] min2_lean min_two max2_lean max_two
set_option linter.unusedSimpArgs false
set_option linter.unusedVariables false
set_option maxRecDepth 100000
theorem Blk.five {w : World} {b : Nat} {a0 a1 a2 a3 a4 : Value} {T : TypeId} (h : Blk w b #[a0, a1, a2, a3, a4] T) :
    (w.cell? ⟨b, 0, none⟩ = some a0 ∧ w.cell? ⟨b, 1, none⟩ = some a1 ∧ w.cell? ⟨b, 2, none⟩ = some a2 ∧ w.cell? ⟨b, 3, none⟩ = some a3 ∧ w.cell? ⟨b, 4, none⟩ = some a4) ∧
    w.frozen? ⟨b, 0, none⟩ = false ∧ w.frozen? ⟨b, 1, none⟩ = false ∧ w.frozen? ⟨b, 2, none⟩ = false ∧ w.frozen? ⟨b, 3, none⟩ = false ∧ w.frozen? ⟨b, 4, none⟩ = false ∧ b < w.heap.size :=
  ⟨⟨h.cell 0, h.cell 1, h.cell 2, h.cell 3, h.cell 4⟩, h.frozen 0, h.frozen 1, h.frozen 2, h.frozen 3, h.frozen 4, h.lt⟩
theorem copied_any (r : RwA) (A : Option Addr) (n c : Nat) (w : World) (hx : Src w (.slice A n c) n 1 (r.its.map Value.string)) (hn : n * 16 ≤ 140737488355328) :
    Calls Try.prog 85 #[.agg (r.cells (.slice A n c))] w fun e w' => ∃ A' c', e = .returned (.agg (r.cells (.slice A' n c'))) ∧ Turns w w' Hp.Own.emp (its A' n c' r.its) := by
  obtain ⟨num, at_, code, k, xs⟩ := r
  simp only [] at hx
  have HCL := Lib.hid (fun W (hc : Chg (fun _ => False) w W) => clone_any A n c xs W (Src.keep0 hx hc) hn)
  show Calls Try.prog 85 #[.agg #[.int .i64 num, .int .i64 at_, .int .i64 code, .int .i64 k, .slice A n c]] w _
  clear hx
  go_enter Try.func85, Try.ntmps85
  have HC2 := Lib.hid (((Chg.refl (fun _ => False) w).alloc (.cells #[.int .i64 num, .int .i64 at_, .int .i64 code, .int .i64 k, .slice A n c] 75)).alloc (.cells #[.int .i64 0, .int .i64 0, .int .i64 0, .int .i64 0, .slice none 0 0] 75))
  have hb0 := (Blk.new w #[.int .i64 num, .int .i64 at_, .int .i64 code, .int .i64 k, .slice A n c] 75).chg ((Chg.refl (fun _ => False) _).alloc (.cells #[.int .i64 0, .int .i64 0, .int .i64 0, .int .i64 0, .slice none 0 0] 75)) (fun h => h)
  have hb1 := Blk.new (w.alloc (.cells #[.int .i64 num, .int .i64 at_, .int .i64 code, .int .i64 k, .slice A n c] 75)) #[.int .i64 0, .int .i64 0, .int .i64 0, .int .i64 0, .slice none 0 0] 75
  rw [show (w.alloc (.cells #[.int .i64 num, .int .i64 at_, .int .i64 code, .int .i64 k, .slice A n c] 75)).heap.size = w.heap.size + 1 by simp] at hb1
  have HB0 := Lib.hid hb0
  have HB1 := Lib.hid hb1
  clear hb0 hb1
  go_wp2_with (go_at_call 101; (with_reducible refine (HCL.out _ HC2.out).mono ?_); rintro e w1 ⟨A', c', rfl, ht1⟩; have HT1 := Lib.hid ht1; obtain ⟨⟨p0, p1, p2, p3, p4⟩, -, -, -, -, g4, hl0⟩ := Blk.five (HB0.out.chg ht1.chg (fun h => h)); obtain ⟨⟨q0, q1, q2, q3, q4⟩, f0, f1, f2, f3, f4, hl1⟩ := Blk.five (HB1.out.chg ht1.chg (fun h => h)); clear ht1)
  refine bodyPost_ret (v := .agg #[.int .i64 num, .int .i64 at_, .int .i64 code, .int .i64 k, .slice A' n c']) (by simp [results, Try.results85, go_sem, *]) rfl ⟨A', c', rfl, ?_⟩
  refine Turns.boxes (O := Hp.Own.emp) trivial HC2.out HT1.out ?_
  rw [show ((w.alloc (.cells #[.int .i64 num, .int .i64 at_, .int .i64 code, .int .i64 k, .slice A n c] 75)).alloc (.cells #[.int .i64 0, .int .i64 0, .int .i64 0, .int .i64 0, .slice none 0 0] 75)).heap.size = w.heap.size + 2 by simp]
  (repeat (first | (with_reducible exact Chg.refl _ _) | (with_reducible refine Chg.set ?_ (Or.inr ⟨by first | (simp; done) | (simp; omega), by first | (simp; done) | (simp; omega)⟩) _) | (with_reducible refine Chg.set ?_ (Or.inl (by simp)) _) | (with_reducible refine Chg.alloc ?_ _) | (with_reducible refine Chg.drew ?_) | (with_reducible refine Chg.drewN ?_ _)))
theorem there_any (k : Int) (w : World) : Calls Try.prog 84 #[.int .i64 k] w fun e w' => e = .returned (.bool (decide (0 ≤ k ∧ k < 8))) ∧ w = w' := by
  have e : (decide (0 ≤ k ∧ k < 8) : Bool) = (decide (0 ≤ k) && decide (k < 8)) := by simp
  rw [e]
  by_cases h1 : 0 ≤ k
  · have e1 : decide (0 ≤ k) = true := by simpa using h1
    rw [e1]
    clear e h1
    go_enter Try.func84, Try.ntmps84
    go_wp2_with fail
    go_ret
    exact ⟨by simp, rfl⟩
  · have e1 : decide (0 ≤ k) = false := by simpa using h1
    rw [e1]
    clear e h1
    go_enter Try.func84, Try.ntmps84
    go_wp2_with fail
    go_ret
    exact ⟨by simp, rfl⟩
/-- Which rows may be. -/
def may (r : RwA) : Bool := decide (1 ≤ r.num) && decide (r.num ≤ 1099511627776) && decide (1 ≤ r.at_) && decide (r.at_ ≤ 1099511627776) && decide (chk r.code r.n r.its = 0)
theorem may_any (r : RwA) (A : Option Addr) (n c : Nat) (w : World) (hx : Src w (.slice A n c) n 1 (r.its.map Value.string)) :
    Calls Try.prog 86 #[.agg (r.cells (.slice A n c))] w fun e w' => e = .returned (.bool (may r)) ∧ Chg (fun _ => False) w w' := by
  obtain ⟨num, at_, code, k, xs⟩ := r
  simp only [] at hx
  have HCK := Lib.hid (fun W (hc : Chg (fun _ => False) w W) => check_any code k A n c xs W (Src.keep0 hx hc))
  unfold may
  simp only []
  generalize chk code k xs = q at *
  show Calls Try.prog 86 #[.agg #[.int .i64 num, .int .i64 at_, .int .i64 code, .int .i64 k, .slice A n c]] w _
  clear hx
  have go : ∀ (b1 b2 b3 b4 : Bool), decide (1 ≤ num) = b1 → decide (num ≤ 1099511627776) = b2 → decide (1 ≤ at_) = b3 → decide (at_ ≤ 1099511627776) = b4 → Calls Try.prog 86 #[.agg #[.int .i64 num, .int .i64 at_, .int .i64 code, .int .i64 k, .slice A n c]] w fun e w' => e = .returned (.bool (b1 && b2 && b3 && b4 && decide (q = 0))) ∧ Chg (fun _ => False) w w' := by
    intro b1 b2 b3 b4 h1 h2 h3 h4
    have HC := Lib.hid ((Chg.refl (fun _ => False) w).alloc (.cells #[.int .i64 num, .int .i64 at_, .int .i64 code, .int .i64 k, .slice A n c] 75))
    cases b1
    · go_enter Try.func86, Try.ntmps86
      go_wp2_with fail
      go_ret
      exact ⟨by simp, HC.out⟩
    cases b2
    · go_enter Try.func86, Try.ntmps86
      go_wp2_with fail
      go_ret
      exact ⟨by simp, HC.out⟩
    cases b3
    · go_enter Try.func86, Try.ntmps86
      go_wp2_with fail
      go_ret
      exact ⟨by simp, HC.out⟩
    cases b4
    · go_enter Try.func86, Try.ntmps86
      go_wp2_with fail
      go_ret
      exact ⟨by simp, HC.out⟩
    · go_enter Try.func86, Try.ntmps86
      go_wp2_with (go_at_call 102; (with_reducible refine (HCK.out _ HC.out).mono ?_); rintro e w1 ⟨rfl, hc1⟩; have HC1 := Lib.hid (HC.out.trans hc1); clear hc1)
      go_ret
      refine ⟨?_, HC1.out⟩
      by_cases hq : q = 0
      · simp [hq]
      · have : (q == 0) = false := by simpa using hq
        simp [hq, this]
  exact go _ _ _ _ rfl rfl rfl rfl
end Go.Proofs.Ytkpgdonpmfebaaa.Rl

/- Families of things; a row that grew out of another one; what was handed out and is kept twice. Plain lemmas on worlds. -/
namespace Go.Hp
open Go.RowKit
set_option linter.unusedSimpArgs false
set_option linter.unusedVariables false
variable {ι : Type}
/-- Things that share no block, as one thing. -/
def Own.fam (F : ι → Own) : Own :=
  ⟨fun b => ∃ i, (F i).foot b, fun w => (∀ i, (F i).holds w) ∧ ∀ i j b, (F i).foot b → (F j).foot b → i = j,
    fun h hb => ⟨fun i => (F i).stable (h.1 i) fun b hf => hb b ⟨i, hf⟩, h.2⟩,
    fun h b hb => by obtain ⟨i, hi⟩ := hb; exact (F i).lt (h.1 i) b hi⟩
theorem Own.fam_as {F G : ι → Own} (e : ∀ i, F i = G i) : Own.fam F = Own.fam G := by rw [funext e]
theorem Turns.fam [DecidableEq ι] {F : ι → Own} {w w' : World} (h : (Own.fam F).holds w) (i : ι) {O' : Own} (ht : Turns w w' (F i) O') : Turns w w' (Own.fam F) (Own.fam (upd F i O')) := by
  have key : ∀ j b, j ≠ i → (F j).foot b → O'.foot b → False := fun j b hne hf ho => by
    rcases ht.near b ho with hf' | hge
    · exact hne (h.2 j i b hf hf')
    · have := (F j).lt (h.1 j) b hf
      omega
  refine ⟨ht.chg.mono fun k _ hf => ⟨i, hf⟩, ⟨fun j => ?_, fun j k b hj hk => ?_⟩, fun b hb => ?_⟩
  · unfold upd
    split
    · exact ht.now
    · rename_i hne
      exact Own.chg (h.1 j) ht.chg (fun b hb hi => hne (h.2 j i b hb hi))
  · unfold upd at hj hk
    split at hj <;> split at hk
    · rename_i e1 e2; rw [e1, e2]
    · rename_i e1 e2; exact (key k b e2 hk hj).elim
    · rename_i e1 e2; exact (key j b e1 hj hk).elim
    · exact h.2 j k b hj hk
  · obtain ⟨j, hj⟩ := hb
    unfold upd at hj
    split at hj
    · rcases ht.near b hj with hf | hge
      · exact Or.inl ⟨i, hf⟩
      · exact Or.inr hge
    · exact Or.inl ⟨j, hj⟩
theorem Turns.to {w w' : World} {O O' O'' : Own} (h : Turns w w' O O') (e : O' = O'') : Turns w w' O O'' := e ▸ h
/-- What is read of an owned slice stays while its block stands. -/
theorem Src.stay {w w' : World} {v : Value} {n : Nat} {xs : List Value} (h : Src w v n 1 xs) (hb : ∀ b, v.ownBlock = some b → w'.heap[b]? = w.heap[b]?) : Src w' v n 1 xs := by
  refine ⟨h.1, ?_⟩
  rcases h.2 with hv | ⟨ad, c, hv, hc⟩
  · exact Or.inl hv
  · refine Or.inr ⟨ad, c, hv, fun j u hj => ?_⟩
    have e : (ad.add j).block = ad.block := by unfold Addr.add; split <;> rfl
    rw [World.cell?_of_block (w := w) (by rw [e]; exact hb ad.block (by rw [hv]; rfl))]
    exact hc j u hj
theorem lt_of_heap {w w' : World} {b : Nat} (h1 : b < w.heap.size) (h2 : w'.heap[b]? = w.heap[b]?) : b < w'.heap.size := by
  refine Decidable.byContradiction fun hn => ?_
  rw [Array.getElem?_eq_none (by omega), Array.getElem?_eq_getElem h1] at h2
  exact absurd h2 (by simp)
/-- A slice that was handed out, and the longer row that grew out of it: in its place, or elsewhere. -/
def Own.pre (E : TypeId) (v0 : Value) (n0 : Nat) (xs0 : List Value) (v : Value) (n : Nat) (xs : List Value) : Own :=
  ⟨fun b => v0.ownBlock = some b ∨ v.ownBlock = some b,
    fun w => w.ownsRow 0 E 1 v n xs ∧ Src w v0 n0 1 xs0 ∧ (v0.ownBlock = v.ownBlock → ∃ ys, xs = xs0 ++ ys) ∧ ∀ b, v0.ownBlock = some b → b < w.heap.size ∧ ∃ n c, v0 = .slice (some ⟨b, 0, none⟩) n c,
    fun h hb => ⟨row_heap h.1 fun b hf => hb b (Or.inr hf), Src.stay h.2.1 fun b hf => hb b (Or.inl hf), h.2.2.1, fun b hf => ⟨lt_of_heap (h.2.2.2 b hf).1 (hb b (Or.inl hf)), (h.2.2.2 b hf).2⟩⟩,
    fun h b hb => hb.elim (fun hf => (h.2.2.2 b hf).1) (fun hf => (World.ownsRow.lt h.1 b hf).2)⟩
theorem Own.pre_start {w : World} {E : TypeId} {v : Value} {n : Nat} {xs : List Value} (h : (Own.row E 1 v n xs).holds w) : (Own.pre E v n xs v n xs).holds w := by
  have h : w.ownsRow 0 E 1 v n xs := h
  refine ⟨h, Src.of_own h, fun _ => ⟨[], by simp⟩, fun b hb => ⟨(World.ownsRow.lt h b hb).2, ?_⟩⟩
  rcases h.2 with ⟨rfl, _⟩ | ⟨g, cap, cur, rfl, _⟩
  · cases hb
  · have : g = b := by simpa [Value.ownBlock] using hb
    subst this
    exact ⟨_, _, rfl⟩
theorem Turns.pre_start {w : World} {E : TypeId} {v : Value} {n : Nat} {xs : List Value} (h : (Own.row E 1 v n xs).holds w) : Turns w w (Own.row E 1 v n xs) (Own.pre E v n xs v n xs) :=
  ⟨Chg.refl _ _, Own.pre_start h, fun b hb => hb.elim Or.inl Or.inl⟩
theorem Own.pre_row {w : World} {E : TypeId} {v0 : Value} {n0 : Nat} {xs0 : List Value} {v : Value} {n : Nat} {xs : List Value} (h : (Own.pre E v0 n0 xs0 v n xs).holds w) : w.ownsRow 0 E 1 v n xs := h.1
theorem Own.pre_old {w : World} {E : TypeId} {v0 : Value} {n0 : Nat} {xs0 : List Value} {v : Value} {n : Nat} {xs : List Value} (h : (Own.pre E v0 n0 xs0 v n xs).holds w) : Src w v0 n0 1 xs0 := h.2.1
/-- Old cells stand behind an append, where there was room and where there was none. -/
def Stood (w' : World) (v : Value) (xs : List Value) : Prop := ∀ g, v.ownBlock = some g → ∀ j u, xs[j]? = some u → w'.cell? ⟨g, j, none⟩ = some u
theorem Turns.pre {w w' : World} {E : TypeId} {v0 : Value} {n0 : Nat} {xs0 : List Value} {v : Value} {n : Nat} {xs : List Value} {v' : Value} {n' : Nat} {ys : List Value} (h : (Own.pre E v0 n0 xs0 v n xs).holds w)
    (ht : Turns w w' (Own.row E 1 v n xs) (Own.row E 1 v' n' (xs ++ ys))) (hs : Stood w' v xs) (hat : v'.ownBlock = v.ownBlock ∨ ∃ b, v'.ownBlock = some b ∧ w.heap.size ≤ b) :
    Turns w w' (Own.pre E v0 n0 xs0 v n xs) (Own.pre E v0 n0 xs0 v' n' (xs ++ ys)) := by
  obtain ⟨h1, h2, h3, h4⟩ := h
  refine ⟨ht.chg.mono fun k _ hf => Or.inr hf, ⟨ht.now, ?_, fun he => ?_, fun b hb => ⟨Nat.lt_of_lt_of_le (h4 b hb).1 ht.chg.size, (h4 b hb).2⟩⟩, fun b hb => ?_⟩
  · by_cases hv : v0.ownBlock = v.ownBlock
    · obtain ⟨zs, hz⟩ := h3 hv
      refine ⟨h2.1, ?_⟩
      rcases h2.2 with hn | ⟨ad, c, hv0, hc⟩
      · exact Or.inl hn
      · have hb0 : v0.ownBlock = some ad.block := by rw [hv0]; rfl
        obtain ⟨_, n1, c1, hv1⟩ := h4 ad.block hb0
        have hade : ad = ⟨ad.block, 0, none⟩ := by
          rw [hv0] at hv1
          exact Option.some.inj (Value.slice.inj hv1).1
        refine Or.inr ⟨ad, c, hv0, fun j u hj => ?_⟩
        have e : ad.add j = ⟨ad.block, j, none⟩ := by
          generalize ad.block = bb at hade
          subst hade
          show (⟨bb, 0, none⟩ : Addr).add j = _
          unfold Addr.add
          split <;> simp_all
        rw [e]
        refine hs ad.block (by rw [← hv, hb0]) j u ?_
        rw [hz]
        exact (List.getElem?_append_left (List.getElem?_eq_some_iff.1 hj).1).trans hj
    · refine Src.stay h2 fun b hb => ht.chg.block b (h4 b hb).1 fun hf => hv ?_
      have hf : v.ownBlock = some b := hf
      rw [hb, hf]
  · have hv : v0.ownBlock = v.ownBlock := by
      rcases hat with e | ⟨b, e, hb⟩
      · rw [he, e]
      · have := (h4 _ (he.trans e)).1
        omega
    obtain ⟨zs, hz⟩ := h3 hv
    exact ⟨zs ++ ys, by rw [hz, List.append_assoc]⟩
  · rcases hb with hb | hb
    · exact Or.inl (Or.inl hb)
    · exact (ht.near b hb).elim (fun hf => Or.inl (Or.inr hf)) Or.inr
section
variable {P : Program} (w : World)
theorem run_append_stood (t ty e : TypeId) (i : TypeInfo) (z : Value) (bytes : Nat) (ht : P.underlying t = some (.slice e)) (hi : P.info? e = some i) (hz : i.zero = some z)
    (hsize : i.size = 1) (hby : i.bytes = bytes) (hzs : z.cells.size = 1)
    (v : Value) (n : Nat) (xs : List Value) (hown : w.ownsRow 0 e 1 v n xs)
    (a : Addr) (m c : Nat) (news : List Value) (hl : news.length = m) (hnews : ∀ j u, news[j]? = some u → w.cell? (a.add j) = some u) (h1 : ∀ u ∈ news, u.oneCell' = true)
    (h63 : n + m ≤ maxLen) (hbytes : (n + m) * bytes ≤ 140737488355328) :
    ∃ v' w', (Builtin.append_ #[t, t] ty #[v, .slice (some a) m c]).run P w = .ok v' w' ∧ w'.ownsRow 0 e 1 v' (n + m) (xs ++ news) ∧ w.grownBy w' v.ownBlock ∧
      (v'.ownBlock = v.ownBlock ∨ v'.ownBlock = some w.heap.size) ∧ Stood w' v xs := by
  obtain ⟨v', w', hr, k1, k2, k3, k4⟩ := run_append_own_at (P := P) w 0 t ty e i z 1 bytes ht hi hz hsize hby hzs (by omega) v n xs hown a m c news (by omega) hnews h1 h63 hbytes (Nat.zero_le _)
  refine ⟨v', w', hr, k1, k2, k4, fun g hg j u hj => ?_⟩
  rcases hown.2 with ⟨rfl, rfl⟩ | ⟨g', cap, cur, rfl, hbg, hh, hnc, hcm, hcs, htake⟩
  · cases hg
  · have : g' = g := by simpa [Value.ownBlock] using hg
    subst this
    have ha : ∀ j, (⟨g', 0, none⟩ : Addr).add j = ⟨g', j, none⟩ := fun j => by unfold Addr.add; split <;> simp_all
    have hwj : w.cell? ⟨g', j, none⟩ = some u := by rw [← ha]; exact World.ownsRow.cells (g := g') hown rfl j u hj
    by_cases hroom : n + m ≤ cap
    · obtain ⟨w2, hr2, hk2, _⟩ := run_append_fits (P := P) w 0 t ty e i 1 ht hi hsize g' n cap xs hown a m c news (by omega) hnews h1 hroom
      rw [hr] at hr2
      injection hr2 with _ e2
      subst e2
      rw [← ha]
      exact World.ownsRow.cells (g := g') hk2 rfl j u (by rw [List.getElem?_append_left (List.getElem?_eq_some_iff.1 hj).1]; exact hj)
    · have holds : ∀ j u, xs[j]? = some u → w.cell? ((⟨g', 0, none⟩ : Addr).add j) = some u := World.ownsRow.cells (g := g') hown rfl
      have hxl : xs.length = n := by have := hown.1; omega
      have hr2 := run_append_grow (P := P) w t ty e i z ht hi hz ⟨g', 0, none⟩ n cap xs (by rw [hsize]; omega) holds a m c news (by rw [hsize]; omega) hnews (by omega) (by simp only [maxLen] at h63; omega) (growslice_fits (by omega) (by rw [hby]; exact hbytes))
      rw [hr] at hr2
      injection hr2 with _ e2
      rw [e2]
      exact (World.cell?_of_block (w := w) (Below.heap_alloc w.drew _ _ (show g' < w.drew.heap.size from Blk.lt hh))).trans hwj
/-- One element behind a row; what stood in it stands. -/
theorem wpList_appK {ops : Array Oper} {rest : List Oper} {o : Oper} {a : Act} {Q : Exit → Act → World → Prop} (hgd : o.guard = none) (s x : Operand) (t : TypeId)
    (ho : o.op = .call { callee := .builtin .append, args := #[s, x], argTypes := #[t, t] })
    (e : TypeId) (i : TypeInfo) (z : Value) (bytes : Nat) (ht : P.underlying t = some (.slice e)) (hi : P.info? e = some i) (hz : i.zero = some z)
    (hsize : i.size = 1) (hby : i.bytes = bytes) (hzs : z.cells.size = 1)
    (v : Value) (n : Nat) (xs : List Value) (hs : a.eval s = v) (u0 : Value) (T : TypeId) (b0 : Nat) (hx : a.eval x = .slice (some ⟨b0, 0, none⟩) 1 1) (hb0 : b0 = w.heap.size) (hown : w.ownsRow 0 e 1 v n xs)
    (h1 : u0.oneCell' = true) (h63 : n + 1 ≤ maxLen) (hbytes : (n + 1) * bytes ≤ 140737488355328)
    (h : ∀ g c w', n + 1 ≤ c → Turns w w' (Own.row e 1 v n xs) (Own.row e 1 (.slice (some ⟨g, 0, none⟩) (n + 1) c) (n + 1) (xs ++ [u0])) → Stood w' v xs → (some g = v.ownBlock ∨ w.heap.size ≤ g) →
      wpList P ops Q rest (a.put o.dst (.slice (some ⟨g, 0, none⟩) (n + 1) c)) w') :
    wpList P ops Q (o :: rest) a (w.alloc (.cells #[u0] T)) := by
  subst hb0
  have hT : Turns w (w.alloc (.cells #[u0] T)) (Own.row e 1 v n xs) (Own.row e 1 v n xs) := Turns.alloc (Turns.refl (O := Own.row e 1 v n xs) hown) _
  refine wpList_plain hgd fun K hK => ?_
  obtain ⟨v', w', hr, h2, h3, h4, h5⟩ := run_append_stood (P := P) (w.alloc (.cells #[u0] T)) t o.type e i z bytes ht hi hz hsize hby hzs v n xs hT.now ⟨w.heap.size, 0, none⟩ 1 1 [u0] rfl (cell_one_new w u0 T) (by simpa using h1) h63 hbytes
  unfold Oper.wp execOp
  simp only [ho, resolve, invoke, builtin, Sem.run_bind, Sem.run_pure, Result.andThen_ok, List.map_toArray, List.map_cons, List.map_nil, hs, hx, hr]
  obtain ⟨g, c, rfl, _, hc⟩ := row_form h2 (by omega)
  refine hK _ _ (h g c w' hc (hT.trans (Turns.row h2 h3 h4)) h5 ?_)
  rcases h4 with h4 | h4
  · exact Or.inl h4
  · have : g = (w.alloc (.cells #[u0] T)).heap.size := by simpa [Value.ownBlock] using h4
    right
    rw [this]
    simp
/-- One element behind a row, as a step of a region that draws. -/
theorem step_app1 {ops : Array Oper} {o : Oper} {a : Act} {K : Act → World → Prop} {Q : Exit → Act → World → Prop} {E : Prop} (hgd : o.guard = none) (s x : Operand) (t : TypeId)
    (ho : o.op = .call { callee := .builtin .append, args := #[s, x], argTypes := #[t, t] })
    (e : TypeId) (i : TypeInfo) (z : Value) (bytes : Nat) (ht : P.underlying t = some (.slice e)) (hi : P.info? e = some i) (hz : i.zero = some z)
    (hsize : i.size = 1) (hby : i.bytes = bytes) (hzs : z.cells.size = 1)
    (v : Value) (n : Nat) (xs : List Value) (hs : a.eval s = v) (u0 : Value) (T : TypeId) (b0 : Nat) (hx : a.eval x = .slice (some ⟨b0, 0, none⟩) 1 1) (hb0 : b0 = w.heap.size) (hown : w.ownsRow 0 e 1 v n xs)
    (h1 : u0.oneCell' = true) (h63 : n + 1 ≤ maxLen) (hbytes : (n + 1) * bytes ≤ 140737488355328)
    (h : ∀ g c w', n + 1 ≤ c → Turns w w' (Own.row e 1 v n xs) (Own.row e 1 (.slice (some ⟨g, 0, none⟩) (n + 1) c) (n + 1) (xs ++ [u0])) → K (a.put o.dst (.slice (some ⟨g, 0, none⟩) (n + 1) c)) w') :
    if Region.wanted o (yielded ops a.tmps) = true then Oper.wp P o a (w.alloc (.cells #[u0] T)) K Q else E := by
  subst hb0
  have hw : Region.wanted o (yielded ops a.tmps) = true := by simp [Region.wanted, hgd]
  rw [if_pos hw]
  have hT : Turns w (w.alloc (.cells #[u0] T)) (Own.row e 1 v n xs) (Own.row e 1 v n xs) := Turns.alloc (Turns.refl (O := Own.row e 1 v n xs) hown) _
  obtain ⟨v', w', hr, h2, h3, h4, h5⟩ := run_append_stood (P := P) (w.alloc (.cells #[u0] T)) t o.type e i z bytes ht hi hz hsize hby hzs v n xs hT.now ⟨w.heap.size, 0, none⟩ 1 1 [u0] rfl (cell_one_new w u0 T) (by simpa using h1) h63 hbytes
  obtain ⟨g, c, rfl, _, hc⟩ := row_form h2 (by omega)
  have hk := h g c w' hc (hT.trans (Turns.row h2 h3 h4))
  unfold Oper.wp execOp
  simp only [ho, resolve, invoke, builtin, Sem.run_bind, Sem.run_pure, Result.andThen_ok, List.map_toArray, List.map_cons, List.map_nil, hs, hx, hr]
  exact hk
end
end Go.Hp

/- What was handed out is kept twice: as it lies, and as it must read. Plain lemmas on worlds. -/
namespace Go.Hp
open Go.RowKit
set_option linter.unusedSimpArgs false
set_option linter.unusedVariables false
inductive KI where
  | box | outs | wants | o (i : Nat) | c (i : Nat)
deriving DecidableEq
structure KS where
  g : Nat
  ov : Value
  wv : Value
  out : Nat → Value
  want : Nat → Value
  len : Nat → Nat
  xs : Nat → List Value
/-- N things are kept, and the first d of them have grown. -/
def KS.fam (k : KS) (T SE E : TypeId) (N d : Nat) : KI → Own
  | .box => Own.blk k.g #[k.ov, k.wv] T
  | .outs => Own.row SE 1 k.ov (N + d) ((List.range (N + d)).map k.out)
  | .wants => Own.row SE 1 k.wv (N + d) ((List.range (N + d)).map k.want)
  | .o i => if i < d then Own.pre E (k.out i) (k.len i) (k.xs i) (k.out (N + i)) (k.len (N + i)) (k.xs (N + i)) else if i < N then Own.row E 1 (k.out i) (k.len i) (k.xs i) else Own.emp
  | .c i => if i < N + d then Own.row E 1 (k.want i) (k.len i) (k.xs i) else Own.emp
def KS.own (k : KS) (T SE E : TypeId) (N d : Nat) : Own := Own.fam (k.fam T SE E N d)
theorem Own.fam_take {ι : Type} [DecidableEq ι] {F : ι → Own} {w : World} {A : Own} (i : ι) (hi : F i = Own.emp) (h : (Own.both (Own.fam F) A).holds w) : Turns w w (Own.both (Own.fam F) A) (Own.fam (upd F i A)) := by
  refine ⟨Chg.refl _ _, ⟨fun j => ?_, fun j k b hj hk => ?_⟩, fun b hb => ?_⟩
  · unfold upd
    split
    · exact h.2.1
    · exact h.1.1 j
  · unfold upd at hj hk
    split at hj <;> split at hk
    · rename_i e1 e2; rw [e1, e2]
    · exact (h.2.2 b ⟨k, hk⟩ hj).elim
    · exact (h.2.2 b ⟨j, hj⟩ hk).elim
    · exact h.1.2 j k b hj hk
  · obtain ⟨j, hj⟩ := hb
    unfold upd at hj
    split at hj
    · exact Or.inl (Or.inr hj)
    · exact Or.inl (Or.inl ⟨j, hj⟩)
variable {k : KS} {T SE E : TypeId} {N d : Nat} {w : World}
theorem KS.reads (h : (k.own T SE E N d).holds w) (hd : d ≤ N) {i : Nat} (hi : i < N + d) : Src w (k.out i) (k.len i) 1 (k.xs i) ∧ Src w (k.want i) (k.len i) 1 (k.xs i) := by
  have h1 := h.1 (.c i)
  simp only [KS.fam, if_pos hi] at h1
  refine ⟨?_, Src.of_own (show w.ownsRow 0 E 1 (k.want i) (k.len i) (k.xs i) from h1)⟩
  by_cases hid : i < d
  · have h2 := h.1 (.o i)
    simp only [KS.fam, if_pos hid] at h2
    exact Own.pre_old h2
  · by_cases hiN : i < N
    · have h2 := h.1 (.o i)
      simp only [KS.fam, if_neg hid, if_pos hiN] at h2
      exact Src.of_own (show w.ownsRow 0 E 1 (k.out i) (k.len i) (k.xs i) from h2)
    · obtain ⟨j, rfl⟩ : ∃ j, i = N + j := ⟨i - N, by omega⟩
      have h2 := h.1 (.o j)
      simp only [KS.fam, if_pos (show j < d by omega)] at h2
      exact Src.of_own (Own.pre_row h2)
theorem KS.box (h : (k.own T SE E N d).holds w) : Blk w k.g #[k.ov, k.wv] T := h.1 .box
theorem KS.outs (h : (k.own T SE E N d).holds w) : w.ownsRow 0 SE 1 k.ov (N + d) ((List.range (N + d)).map k.out) := h.1 .outs
theorem KS.wants (h : (k.own T SE E N d).holds w) : w.ownsRow 0 SE 1 k.wv (N + d) ((List.range (N + d)).map k.want) := h.1 .wants
theorem row_at {w : World} {g n c : Nat} {E : TypeId} {xs : List Value} (h : w.ownsRow 0 E 1 (.slice (some ⟨g, 0, none⟩) n c) n xs) (j : Nat) {u : Value} (hu : xs[j]? = some u) :
    w.cell? ⟨g, j, none⟩ = some u ∧ w.frozen? ⟨g, j, none⟩ = false := by
  have hjl : j < n := by have := (List.getElem?_eq_some_iff.1 hu).1; have := h.1; omega
  refine ⟨?_, ?_⟩
  · have := World.ownsRow.cells (g := g) h rfl j u hu
    have ha : (⟨g, 0, none⟩ : Addr).add j = ⟨g, j, none⟩ := by unfold Addr.add; split <;> simp_all
    rwa [ha] at this
  · rcases h.2 with ⟨_, h0⟩ | ⟨g', cap, cur, hv, _, hg, _⟩
    · omega
    · simp only [Value.slice.injEq, Option.some.injEq, Addr.mk.injEq, and_true, true_and] at hv
      obtain ⟨rfl, rfl⟩ := hv
      exact Blk.frozen hg j
theorem range_at {α : Type} (f : Nat → α) {M i : Nat} (h : i < M) : ((List.range M).map f)[i]? = some (f i) := by
  rw [List.getElem?_map, List.getElem?_range h]; rfl
/-- The place of the i-th slice, and what lies there. -/
theorem KS.at_ (h : (k.own T SE E N d).holds w) {i : Nat} (hi : i < N + d) : ∃ go co gw cw, k.ov = .slice (some ⟨go, 0, none⟩) (N + d) co ∧ k.wv = .slice (some ⟨gw, 0, none⟩) (N + d) cw ∧
    w.cell? ⟨go, i, none⟩ = some (k.out i) ∧ w.cell? ⟨gw, i, none⟩ = some (k.want i) := by
  have h1 := KS.outs h
  have h2 := KS.wants h
  obtain ⟨go, co, e1, _, _⟩ := row_form h1 (by omega)
  obtain ⟨gw, cw, e2, _, _⟩ := row_form h2 (by omega)
  rw [e1] at h1
  rw [e2] at h2
  exact ⟨go, co, gw, cw, e1, e2, (row_at h1 i (range_at _ hi)).1, (row_at h2 i (range_at _ hi)).1⟩
theorem Own.fam_chg {ι : Type} {F : ι → Own} {w w' : World} (h : (Own.fam F).holds w) (hc : Chg (fun _ => False) w w') : (Own.fam F).holds w' := Own.chg h hc (fun _ _ hf => hf)
theorem Turns.famE {ι : Type} [DecidableEq ι] {F : ι → Own} {w w' : World} {O O' : Own} (h : (Own.fam F).holds w) (i : ι) (hi : F i = O) (ht : Turns w w' O O') : Turns w w' (Own.fam F) (Own.fam (upd F i O')) := by
  subst hi
  exact Turns.fam h i ht
/-- One more. -/
def KS.add (k : KS) (M : Nat) (ov wv x y : Value) (n : Nat) (zs : List Value) : KS :=
  ⟨k.g, ov, wv, fun i => if i = M then x else k.out i, fun i => if i = M then y else k.want i, fun i => if i = M then n else k.len i, fun i => if i = M then zs else k.xs i⟩
theorem range_add {α : Type} (f : Nat → α) (M : Nat) (x : α) : (List.range (M + 1)).map (fun i => if i = M then x else f i) = (List.range M).map f ++ [x] := by
  rw [List.range_succ, List.map_append]
  congr 1
  · refine List.map_congr_left fun i hi => ?_
    have := List.mem_range.1 hi
    rw [if_neg (by omega)]
  · simp
theorem KS.kept (k : KS) (T SE E : TypeId) (N : Nat) (ov wv x y : Value) (n : Nat) (zs : List Value) (b0 : Own) :
    ∀ i, upd (upd (upd (upd (upd (upd (k.fam T SE E N 0) (.o N) (Own.row E 1 x n zs)) .outs (Own.row SE 1 ov (N + 1) ((List.range N).map k.out ++ [x]))) .box b0) (.c N) (Own.row E 1 y n zs)) .wants (Own.row SE 1 wv (N + 1) ((List.range N).map k.want ++ [y]))) .box (Own.blk k.g #[ov, wv] T) i = (k.add N ov wv x y n zs).fam T SE E (N + 1) 0 i := by
  intro i
  cases i with
  | box => rfl
  | outs =>
    show Own.row SE 1 ov (N + 1) _ = Own.row SE 1 ov (N + 1 + 0) ((List.range (N + 1 + 0)).map _)
    rw [Nat.add_zero]
    show _ = Own.row SE 1 ov (N + 1) ((List.range (N + 1)).map (fun i => if i = N then x else k.out i))
    rw [range_add]
  | wants =>
    show Own.row SE 1 wv (N + 1) _ = Own.row SE 1 wv (N + 1 + 0) ((List.range (N + 1 + 0)).map _)
    rw [Nat.add_zero]
    show _ = Own.row SE 1 wv (N + 1) ((List.range (N + 1)).map (fun i => if i = N then y else k.want i))
    rw [range_add]
  | o i =>
    by_cases h : i = N
    · subst h
      simp [upd, KS.fam, KS.add]
    · simp only [upd, KS.fam, KS.add, reduceCtorEq, if_false, KI.o.injEq, if_neg h, Nat.not_lt_zero]
      by_cases h2 : i < N
      · rw [if_pos h2, if_pos (by omega)]
      · rw [if_neg h2, if_neg (by omega)]
  | c i =>
    by_cases h : i = N
    · subst h
      simp [upd, KS.fam, KS.add]
    · simp only [upd, KS.fam, KS.add, reduceCtorEq, if_false, KI.c.injEq, if_neg h, Nat.add_zero]
      by_cases h2 : i < N
      · rw [if_pos h2, if_pos (by omega)]
      · rw [if_neg h2, if_neg (by omega)]
/-- One has turned, in both. -/
def KS.put (k : KS) (i : Nat) (zs : List Value) : KS := ⟨k.g, k.ov, k.wv, k.out, k.want, k.len, fun j => if j = i then zs else k.xs j⟩
theorem KS.marked (k : KS) (T SE E : TypeId) (N i : Nat) (hi : i < N) (zs : List Value) :
    ∀ j, upd (upd (k.fam T SE E N 0) (.o i) (Own.row E 1 (k.out i) (k.len i) zs)) (.c i) (Own.row E 1 (k.want i) (k.len i) zs) j = (k.put i zs).fam T SE E N 0 j := by
  intro j
  cases j with
  | box => rfl
  | outs => rfl
  | wants => rfl
  | o j =>
    by_cases h : j = i
    · subst h
      simp [upd, KS.fam, KS.put, hi]
    · simp [upd, KS.fam, KS.put, h]
  | c j =>
    by_cases h : j = i
    · subst h
      simp [upd, KS.fam, KS.put, hi]
    · simp [upd, KS.fam, KS.put, h]
/-- One has grown, in both. -/
theorem KS.grew (k : KS) (T SE E : TypeId) (N d : Nat) (hd : d < N) (ov wv x y : Value) (n : Nat) (zs : List Value) (b0 : Own) :
    ∀ i, upd (upd (upd (upd (upd (upd (k.fam T SE E N d) (.o d) (Own.pre E (k.out d) (k.len d) (k.xs d) x n zs)) (.c (N + d)) (Own.row E 1 y n zs)) .outs (Own.row SE 1 ov (N + d + 1) ((List.range (N + d)).map k.out ++ [x]))) .box b0) .wants (Own.row SE 1 wv (N + d + 1) ((List.range (N + d)).map k.want ++ [y]))) .box (Own.blk k.g #[ov, wv] T) i = (k.add (N + d) ov wv x y n zs).fam T SE E N (d + 1) i := by
  intro i
  cases i with
  | box => rfl
  | outs =>
    show Own.row SE 1 ov (N + d + 1) _ = Own.row SE 1 ov (N + d + 1) ((List.range (N + d + 1)).map (fun i => if i = N + d then x else k.out i))
    rw [range_add]
  | wants =>
    show Own.row SE 1 wv (N + d + 1) _ = Own.row SE 1 wv (N + d + 1) ((List.range (N + d + 1)).map (fun i => if i = N + d then y else k.want i))
    rw [range_add]
  | o i =>
    by_cases h : i = d
    · subst h
      simp [upd, KS.fam, KS.add, show ¬ N = 0 by omega]
    · simp only [upd, KS.fam, KS.add, reduceCtorEq, if_false, KI.o.injEq, if_neg h]
      by_cases h2 : i < d
      · rw [if_pos h2, if_pos (show i < d + 1 by omega), if_neg (show ¬ i = N + d by omega), if_neg (show ¬ i = N + d by omega), if_neg (show ¬ i = N + d by omega), if_neg (show ¬ N + i = N + d by omega), if_neg (show ¬ N + i = N + d by omega), if_neg (show ¬ N + i = N + d by omega)]
      · rw [if_neg h2, if_neg (show ¬ i < d + 1 by omega)]
        by_cases h3 : i < N
        · rw [if_pos h3, if_pos h3, if_neg (show ¬ i = N + d by omega), if_neg (show ¬ i = N + d by omega), if_neg (show ¬ i = N + d by omega)]
        · rw [if_neg h3, if_neg h3]
  | c i =>
    by_cases h : i = N + d
    · subst h
      simp [upd, KS.fam, KS.add]
    · simp only [upd, KS.fam, KS.add, reduceCtorEq, if_false, KI.c.injEq, if_neg h]
      by_cases h2 : i < N + d
      · rw [if_pos h2, if_pos (show i < N + (d + 1) by omega)]
      · rw [if_neg h2, if_neg (show ¬ i < N + (d + 1) by omega)]
def KS.wx (k : KS) (f : Nat → List Value) : KS := ⟨k.g, k.ov, k.wv, k.out, k.want, k.len, f⟩
theorem KS.wx_self (k : KS) : k.wx k.xs = k := rfl
/-- The two places where the i-th thing lies, none of them beside the other or the box. -/
theorem KS.apart {k : KS} {T SE E : TypeId} {N : Nat} {w : World} (h : (k.own T SE E N 0).holds w) {i : Nat} (hi : i < N) (hl : 0 < k.len i) :
    ∃ bo co bw cw, k.out i = .slice (some ⟨bo, 0, none⟩) (k.len i) co ∧ k.want i = .slice (some ⟨bw, 0, none⟩) (k.len i) cw ∧ w.ownsRow 0 E 1 (.slice (some ⟨bo, 0, none⟩) (k.len i) co) (k.len i) (k.xs i) ∧ w.ownsRow 0 E 1 (.slice (some ⟨bw, 0, none⟩) (k.len i) cw) (k.len i) (k.xs i) ∧
      bo ≠ k.g ∧ bw ≠ k.g ∧ bo ≠ bw ∧ (∀ g n c, k.wv = .slice (some ⟨g, 0, none⟩) n c → bo ≠ g) ∧ (∀ g n c, k.ov = .slice (some ⟨g, 0, none⟩) n c → bo ≠ g) := by
  have h1 := h.1 (.o i)
  simp only [KS.fam, if_neg (Nat.not_lt_zero i), if_pos hi] at h1
  have h2 := h.1 (.c i)
  simp only [KS.fam, Nat.add_zero, if_pos hi] at h2
  obtain ⟨bo, co, e1, _, _⟩ := row_form (show w.ownsRow 0 E 1 (k.out i) (k.len i) (k.xs i) from h1) hl
  obtain ⟨bw, cw, e2, _, _⟩ := row_form (show w.ownsRow 0 E 1 (k.want i) (k.len i) (k.xs i) from h2) hl
  have f1 : (k.fam T SE E N 0 (.o i)).foot bo := by
    simp only [KS.fam, if_neg (Nat.not_lt_zero i), if_pos hi]
    show (k.out i).ownBlock = some bo
    rw [e1]; rfl
  have f2 : (k.fam T SE E N 0 (.c i)).foot bw := by
    simp only [KS.fam, Nat.add_zero, if_pos hi]
    show (k.want i).ownBlock = some bw
    rw [e2]; rfl
  refine ⟨bo, co, bw, cw, e1, e2, by rw [← e1]; exact h1, by rw [← e2]; exact h2, ?_, ?_, ?_, ?_, ?_⟩
  · intro e; have := h.2 (.o i) .box bo f1 e; cases this
  · intro e; have := h.2 (.c i) .box bw f2 e; cases this
  · intro e; have := h.2 (.o i) (.c i) bo f1 (e ▸ f2); cases this
  · intro g n c hv e
    have := h.2 (.o i) .wants bo f1 (by show k.wv.ownBlock = some bo; rw [hv, e]; rfl)
    cases this
  · intro g n c hv e
    have := h.2 (.o i) .outs bo f1 (by show k.ov.ownBlock = some bo; rw [hv, e]; rfl)
    cases this
/-- A mark, in both. -/
theorem KS.mark {k : KS} {T SE E : TypeId} {N : Nat} {w : World} (h : (k.own T SE E N 0).holds w) {i : Nat} (hi : i < N) {bo co bw cw : Nat} (e1 : k.out i = .slice (some ⟨bo, 0, none⟩) (k.len i) co) (e2 : k.want i = .slice (some ⟨bw, 0, none⟩) (k.len i) cw) (j : Nat) (v : Value) :
    Turns w ((w.setCell ⟨bo, j, none⟩ v).setCell ⟨bw, j, none⟩ v) (k.own T SE E N 0) ((k.put i ((k.xs i).set j v)).own T SE E N 0) := by
  have h1 := h.1 (.o i)
  simp only [KS.fam, if_neg (Nat.not_lt_zero i), if_pos hi] at h1
  rw [e1] at h1
  have t1 := Turns.famE h (.o i) (O := Own.row E 1 (k.out i) (k.len i) (k.xs i)) (by simp only [KS.fam, if_neg (Nat.not_lt_zero i), if_pos hi]) (by rw [e1]; exact Turns.row_set h1 j v)
  have h2 : (Own.row E 1 (k.want i) (k.len i) (k.xs i)).holds (w.setCell ⟨bo, j, none⟩ v) := by
    have := t1.now.1 (.c i)
    simpa only [upd, reduceCtorEq, if_false, KS.fam, Nat.add_zero, if_pos hi] using this
  rw [e2] at h2
  have t2 := Turns.famE t1.now (.c i) (O := Own.row E 1 (k.want i) (k.len i) (k.xs i)) (by simp only [upd, reduceCtorEq, if_false, KS.fam, Nat.add_zero, if_pos hi]) (by rw [e2]; exact Turns.row_set h2 j v)
  refine (t1.trans t2).to ?_
  rw [← e1, ← e2]
  exact Own.fam_as (KS.marked k T SE E N i hi _)
theorem Own.fam_both {ι : Type} {F : ι → Own} {w : World} (h : (Own.fam F).holds w) {i j : ι} (hij : i ≠ j) {A B : Own} (hi : F i = A) (hj : F j = B) : (Own.both A B).holds w := by
  subst hi; subst hj
  exact ⟨h.1 i, h.1 j, fun b h1 h2 => hij (h.2 i j b h1 h2)⟩
/-- Two things become one. -/
theorem Turns.fam2 {ι : Type} [DecidableEq ι] {F : ι → Own} {w w' : World} (h : (Own.fam F).holds w) {i j : ι} (hij : i ≠ j) {A B O' : Own} (hi : F i = A) (hj : F j = B) (ht : Turns w w' (Own.both A B) O') :
    Turns w w' (Own.fam F) (Own.fam (upd (upd F i O') j Own.emp)) := by
  subst hi; subst hj
  have key : ∀ k b, k ≠ i → k ≠ j → (F k).foot b → O'.foot b → False := fun k b h1 h2 hf ho => by
    rcases ht.near b ho with hf' | hge
    · rcases hf' with h3 | h3
      · exact h1 (h.2 k i b hf h3)
      · exact h2 (h.2 k j b hf h3)
    · have := (F k).lt (h.1 k) b hf
      omega
  refine ⟨ht.chg.mono fun k _ hf => hf.elim (fun h1 => ⟨i, h1⟩) (fun h1 => ⟨j, h1⟩), ⟨fun k => ?_, fun k l b hk hl => ?_⟩, fun b hb => ?_⟩
  · unfold upd
    split
    · trivial
    · split
      · exact ht.now
      · rename_i h1 h2
        exact Own.chg (h.1 k) ht.chg (fun b hb hf => hf.elim (fun h3 => h2 (h.2 k i b hb h3)) (fun h3 => h1 (h.2 k j b hb h3)))
  · unfold upd at hk hl
    split at hk
    · exact hk.elim
    · split at hl
      · exact hl.elim
      · rename_i k1 l1
        split at hk <;> split at hl
        · rename_i k2 l2; rw [k2, l2]
        · rename_i k2 l2; exact (key l b l2 l1 hl hk).elim
        · rename_i k2 l2; exact (key k b k2 k1 hk hl).elim
        · exact h.2 k l b hk hl
  · obtain ⟨k, hk⟩ := hb
    unfold upd at hk
    split at hk
    · exact hk.elim
    · split at hk
      · rcases ht.near b hk with hf | hge
        · exact Or.inl (hf.elim (fun h1 => ⟨i, h1⟩) (fun h1 => ⟨j, h1⟩))
        · exact Or.inr hge
      · exact Or.inl ⟨k, hk⟩
def KS.empty (g : Nat) : KS := ⟨g, .slice none 0 0, .slice none 0 0, fun _ => .slice none 0 0, fun _ => .slice none 0 0, fun _ => 0, fun _ => []⟩
theorem KS.new {w w' : World} {g : Nat} (T SE E : TypeId) (h : Turns w w' Own.emp (Own.blk g #[.slice none 0 0, .slice none 0 0] T)) : Turns w w' Own.emp ((KS.empty g).own T SE E 0 0) := by
  have ho : ∀ i, (KS.empty g).fam T SE E 0 0 i = (match i with | .box => Own.blk g #[.slice none 0 0, .slice none 0 0] T | .outs => Own.row SE 1 (.slice none 0 0) 0 [] | .wants => Own.row SE 1 (.slice none 0 0) 0 [] | .o _ => Own.emp | .c _ => Own.emp) := fun i => by
    cases i with
    | box => rfl
    | outs => rfl
    | wants => rfl
    | o i => simp [KS.fam]
    | c i => simp [KS.fam]
  have e : (KS.empty g).own T SE E 0 0 = Own.fam (fun i : KI => match i with | .box => Own.blk g #[.slice none 0 0, .slice none 0 0] T | .outs => Own.row SE 1 (.slice none 0 0) 0 [] | .wants => Own.row SE 1 (.slice none 0 0) 0 [] | .o _ => Own.emp | .c _ => Own.emp) := Own.fam_as ho
  rw [e]
  refine ⟨h.chg, ⟨fun i => ?_, fun i j b hi hj => ?_⟩, fun b hb => ?_⟩
  · cases i with
    | box => exact h.now
    | outs => exact World.ownsRow_nil _ _ _ _
    | wants => exact World.ownsRow_nil _ _ _ _
    | o i => trivial
    | c i => trivial
  · cases i <;> cases j <;> first | rfl | (cases hi; done) | (cases hj; done) | exact (hi : False).elim | exact (hj : False).elim
  · obtain ⟨i, hi⟩ := hb
    cases i with
    | box => exact h.near b hi
    | outs => cases hi
    | wants => cases hi
    | o i => exact hi.elim
    | c i => exact hi.elim
end Go.Hp

/- Package roll: a roll in memory; New, Last. -/
namespace Go.Proofs.Ytkpgdonpmfebaaa.Rl
open Go.RowKit Go.Hp
attribute [local go_sem] min2_lean min_two max2_lean max_two
set_option linter.unusedSimpArgs false
set_option linter.unusedVariables false
set_option maxRecDepth 100000
def RwA.zero : RwA := ⟨0, 0, 0, 0, []⟩
/-- A roll: its block; of each client: is there a row, what it says, where its items lie. -/
structure RlS where
  g : Nat
  is : Nat → Bool
  row : Nat → RwA
  v : Nat → Value
def plc (b : Bool) (r : RwA) (v : Value) : List Value := [.bool b, .int .i64 r.num, .int .i64 r.at_, .int .i64 r.code, .int .i64 r.n, v]
def RlS.cells (s : RlS) : Array Value := (plc (s.is 0) (s.row 0) (s.v 0) ++ plc (s.is 1) (s.row 1) (s.v 1) ++ plc (s.is 2) (s.row 2) (s.v 2) ++ plc (s.is 3) (s.row 3) (s.v 3) ++ plc (s.is 4) (s.row 4) (s.v 4) ++ plc (s.is 5) (s.row 5) (s.v 5) ++ plc (s.is 6) (s.row 6) (s.v 6) ++ plc (s.is 7) (s.row 7) (s.v 7)).toArray
def irow (v : Value) (xs : List ByteArray) : Hp.Own := Hp.Own.row 9 1 v xs.length (xs.map Value.string)
def RlS.fam (s : RlS) : Fin 8 → Hp.Own := fun k => irow (s.v k) (s.row k).its
def RlS.own (s : RlS) : Hp.Own := Hp.Own.both (Hp.Own.blk s.g s.cells 127) (Own.fam s.fam)
/-- Rows that are there may be there; the others are empty. -/
def RlS.ok (s : RlS) : Prop := ∀ k, k < 8 → (s.is k = true ∧ may (s.row k) = true) ∨ (s.is k = false ∧ s.row k = RwA.zero)
theorem may_len {r : RwA} (h : may r = true) : r.its.length ≤ 8 := by
  unfold may at h
  simp only [Bool.and_eq_true, decide_eq_true_eq] at h
  have h1 := h.2
  unfold chk at h1
  split at h1
  · simp at h1
  split at h1
  · simp at h1
  split at h1
  · simp at h1
  split at h1
  · simp at h1
  · omega
theorem RlS.ok.len {s : RlS} (h : s.ok) {k : Nat} (hk : k < 8) : (s.row k).its.length ≤ 8 := by
  rcases h k hk with h1 | h1
  · exact may_len h1.2
  · rw [h1.2]; simp [RwA.zero]
theorem RlS.at_ (s : RlS) {k : Nat} (hk : k < 8) : s.cells[k * 6]? = some (.bool (s.is k)) ∧ s.cells[k * 6 + 1]? = some (.int .i64 (s.row k).num) ∧ s.cells[k * 6 + 1 + 1]? = some (.int .i64 (s.row k).at_) ∧ s.cells[k * 6 + 1 + 2]? = some (.int .i64 (s.row k).code) ∧ s.cells[k * 6 + 1 + 3]? = some (.int .i64 (s.row k).n) ∧ s.cells[k * 6 + 1 + 4]? = some (s.v k) := by
  rcases (show k = 0 ∨ k = 1 ∨ k = 2 ∨ k = 3 ∨ k = 4 ∨ k = 5 ∨ k = 6 ∨ k = 7 by omega) with rfl | rfl | rfl | rfl | rfl | rfl | rfl | rfl <;> exact ⟨rfl, rfl, rfl, rfl, rfl, rfl⟩
def RlS.new (g : Nat) : RlS := ⟨g, fun _ => false, fun _ => RwA.zero, fun _ => .slice none 0 0⟩
theorem fam_nil {w : World} : (Own.fam fun _ : Fin 8 => irow (.slice none 0 0) []).holds w := ⟨fun _ => World.ownsRow_nil _ _ _ _, fun i j b hi hj => by cases hi⟩
theorem new_any (w : World) : Calls Try.prog 39 #[] w fun e w' => ∃ g, e = .returned (.pointer (some ⟨g, 0, none⟩)) ∧ Turns w w' Hp.Own.emp (RlS.new g).own := by
  go_enter Try.func39, Try.ntmps39
  go_wp2_with fail
  go_ret
  refine ⟨_, rfl, ?_⟩
  have h := Turns.blk_new w (RlS.new w.heap.size).cells 127
  exact ⟨h.chg, ⟨h.now, fam_nil, fun b hb hf => by obtain ⟨i, hi⟩ := hf; cases hi⟩, fun b hb => hb.elim (fun h1 => h.near b h1) (fun hf => by obtain ⟨i, hi⟩ := hf; cases hi)⟩
/-- What Last tells. -/
def RlS.has (s : RlS) (k : Int) : Bool := decide (0 ≤ k ∧ k < 8 ∧ s.is k.toNat = true)
def RlS.last (s : RlS) (k : Int) : RwA := if s.has k then s.row k.toNat else RwA.zero
theorem src_items {s : RlS} {w : World} (hs : s.own.holds w) {k : Nat} (hk : k < 8) : ∃ A c, s.v k = .slice A (s.row k).its.length c ∧ Src w (.slice A (s.row k).its.length c) (s.row k).its.length 1 ((s.row k).its.map Value.string) := by
  have h : w.ownsRow 0 9 1 (s.v k) (s.row k).its.length ((s.row k).its.map Value.string) := hs.2.1.1 ⟨k, hk⟩
  obtain ⟨A, c, hv⟩ := row_slice h
  rcases h.2 with ⟨hn, h0⟩ | ⟨g, cap, cur, hn, _⟩
  · rw [h0] at h ⊢
    rw [hn] at h
    exact ⟨none, 0, hn, Src.of_own h⟩
  · rw [hn] at h
    exact ⟨_, _, hn, Src.of_own h⟩
theorem its_nil {w w' : World} (hc : Chg (fun _ => False) w w') : Turns w w' Hp.Own.emp (irow (.slice none 0 0) []) := ⟨hc, World.ownsRow_nil _ _ _ _, fun b hb => by cases hb⟩
theorem last_any (s : RlS) (k : Int) (w : World) (hs : s.own.holds w) (hok : s.ok) :
    Calls Try.prog 41 #[.pointer (some ⟨s.g, 0, none⟩), .int .i64 k] w fun e w' => ∃ A c, e = .returned (.tuple #[.agg ((s.last k).cells (.slice A (s.last k).its.length c)), .bool (s.has k)]) ∧
      Turns w w' Hp.Own.emp (irow (.slice A (s.last k).its.length c) (s.last k).its) := by
  have HTH := Lib.hid (fun W => there_any k W)
  unfold RlS.last
  by_cases hk : 0 ≤ k ∧ k < 8
  · obtain ⟨j, rfl⟩ : ∃ j : Nat, k = j := ⟨k.toNat, by omega⟩
    have hj : j < 8 := by omega
    have hth : decide (0 ≤ (j : Int) ∧ (j : Int) < 8) = true := by simpa using hk
    rw [hth] at HTH
    obtain ⟨b0, b1, b2, b3, b4, b5⟩ := s.at_ hj
    have c0 := (hs.1.cell (j * 6)).trans b0
    have c1 := (hs.1.cell (j * 6 + 1)).trans b1
    have c2 := (hs.1.cell (j * 6 + 1 + 1)).trans b2
    have c3 := (hs.1.cell (j * 6 + 1 + 2)).trans b3
    have c4 := (hs.1.cell (j * 6 + 1 + 3)).trans b4
    have c5 := (hs.1.cell (j * 6 + 1 + 4)).trans b5
    have hgl : s.g < w.heap.size := Blk.lt hs.1
    have hd : decide ((j : Int) < 8) = true := by simp; omega
    have hji : (j : Int) < 8 := by omega
    by_cases his : s.is j = true
    · have e : s.has (j : Int) = true := by unfold RlS.has; simp [his]; omega
      rw [e, if_pos rfl]
      rw [his] at c0
      obtain ⟨A, c, hv, hsrc⟩ := src_items hs hj
      rw [hv] at c5
      have hlen := hok.len hj
      have HCP := Lib.hid (fun W (hc : Chg (fun _ => False) w W) => copied_any (s.row j) A (s.row j).its.length c W (Src.keep0 hsrc hc) (by omega))
      simp only [Int.toNat_natCast]
      clear e b0 b1 b2 b3 b4 b5 hs hok hsrc hv his hk hth
      generalize s.row j = r at *
      obtain ⟨num, at_, code, n, xs⟩ := r
      simp only [] at c1 c2 c3 c4 c5 hlen HCP ⊢
      obtain ⟨m, hm⟩ : ∃ m, xs.length = m := ⟨_, rfl⟩
      rw [hm] at HCP c5 hlen ⊢
      have HM := Lib.hid hm
      clear hm
      simp only [RwA.cells] at HCP ⊢
      have HC := Lib.hid ((Chg.refl (fun _ => False) w).alloc (.cells #[.int .i64 0, .int .i64 0, .int .i64 0, .int .i64 0, .slice none 0 0] 75))
      have HB := Lib.hid (Blk.new w #[.int .i64 0, .int .i64 0, .int .i64 0, .int .i64 0, .slice none 0 0] 75)
      go_enter Try.func41, Try.ntmps41
      go_wp2_with (first
        | (go_at_call 84; (with_reducible refine (HTH.out _).mono ?_); rintro e w1 ⟨rfl, rfl⟩)
        | (go_at_call 85; (with_reducible refine (HCP.out _ HC.out).mono ?_); rintro e w1 ⟨A', c', rfl, ht1⟩; have HT1 := Lib.hid ht1; obtain ⟨⟨q0, q1, q2, q3, q4⟩, f0, f1, f2, f3, f4, hl1⟩ := Blk.five (HB.out.chg ht1.chg (fun h => h)); clear ht1))
      refine bodyPost_ret (v := .tuple #[.agg #[.int .i64 num, .int .i64 at_, .int .i64 code, .int .i64 n, .slice A' m c'], .bool true]) (by simp [results, Try.results41, go_sem, *]) rfl ⟨A', c', rfl, ?_⟩
      unfold irow
      rw [HM.out]
      refine Turns.boxes (O := Hp.Own.emp) trivial HC.out HT1.out ?_
      rw [show (w.alloc (.cells #[.int .i64 0, .int .i64 0, .int .i64 0, .int .i64 0, .slice none 0 0] 75)).heap.size = w.heap.size + 1 by simp]
      (repeat (first | (with_reducible exact Chg.refl _ _) | (with_reducible refine Chg.set ?_ (Or.inr ⟨by first | (simp; done) | (simp; omega), by first | (simp; done) | (simp; omega)⟩) _) | (with_reducible refine Chg.set ?_ (Or.inl (by simp)) _) | (with_reducible refine Chg.alloc ?_ _) | (with_reducible refine Chg.drew ?_) | (with_reducible refine Chg.drewN ?_ _)))
    · have his : s.is j = false := by simpa using his
      have e : s.has (j : Int) = false := by unfold RlS.has; simp [his]
      rw [e, if_neg (by simp)]
      rw [his] at c0
      clear e b0 b1 b2 b3 b4 b5 hs
      go_enter Try.func41, Try.ntmps41
      go_wp2_with (go_at_call 84; (with_reducible refine (HTH.out _).mono ?_); rintro e w1 ⟨rfl, rfl⟩)
      refine bodyPost_ret (v := .tuple #[.agg #[.int .i64 0, .int .i64 0, .int .i64 0, .int .i64 0, .slice none 0 0], .bool false]) (by simp [results, Try.results41, go_sem, *]) rfl ⟨none, 0, rfl, its_nil ((Chg.refl _ w).alloc _)⟩
  · have e : s.has k = false := by unfold RlS.has; exact decide_eq_false (fun h => hk ⟨h.1, h.2.1⟩)
    rw [e, if_neg (by simp)]
    have hth : decide (0 ≤ k ∧ k < 8) = false := decide_eq_false hk
    rw [hth] at HTH
    clear e hs hk hth
    go_enter Try.func41, Try.ntmps41
    go_wp2_with (go_at_call 84; (with_reducible refine (HTH.out _).mono ?_); rintro e w1 ⟨rfl, rfl⟩)
    refine bodyPost_ret (v := .tuple #[.agg #[.int .i64 0, .int .i64 0, .int .i64 0, .int .i64 0, .slice none 0 0], .bool false]) (by simp [results, Try.results41, go_sem, *]) rfl ⟨none, 0, rfl, its_nil ((Chg.refl _ w).alloc _)⟩
end Go.Proofs.Ytkpgdonpmfebaaa.Rl

/- Package roll: Set. -/
namespace Go.Proofs.Ytkpgdonpmfebaaa.Rl
open Go.RowKit Go.Hp
attribute [local go_sem] min2_lean min_two max2_lean max_two
set_option linter.unusedSimpArgs false
set_option linter.unusedVariables false
set_option maxRecDepth 100000
def RlS.put (s : RlS) (k : Nat) (r : RwA) (v : Value) : RlS := ⟨s.g, fun j => if j = k then true else s.is j, fun j => if j = k then r else s.row j, fun j => if j = k then v else s.v j⟩
theorem RlS.put_cells (s : RlS) (k : Nat) (hk : k < 8) (r : RwA) (v : Value) : (s.put k r v).cells = (((((s.cells.setIfInBounds (k * 6) (.bool true)).setIfInBounds (k * 6 + 1) (.int .i64 r.num)).setIfInBounds (k * 6 + 2) (.int .i64 r.at_)).setIfInBounds (k * 6 + 3) (.int .i64 r.code)).setIfInBounds (k * 6 + 4) (.int .i64 r.n)).setIfInBounds (k * 6 + 5) v := by
  rcases (show k = 0 ∨ k = 1 ∨ k = 2 ∨ k = 3 ∨ k = 4 ∨ k = 5 ∨ k = 6 ∨ k = 7 by omega) with rfl | rfl | rfl | rfl | rfl | rfl | rfl | rfl <;> simp [RlS.cells, RlS.put, plc]
def put6 (w : World) (g k : Nat) (r : RwA) (v : Value) : World := (((((w.setCell ⟨g, k * 6, none⟩ (.bool true)).setCell ⟨g, k * 6 + 1, none⟩ (.int .i64 r.num)).setCell ⟨g, k * 6 + 2, none⟩ (.int .i64 r.at_)).setCell ⟨g, k * 6 + 3, none⟩ (.int .i64 r.code)).setCell ⟨g, k * 6 + 4, none⟩ (.int .i64 r.n)).setCell ⟨g, k * 6 + 5, none⟩ v
theorem set_turn {s : RlS} {w w1 : World} {v : Value} {r : RwA} (hs : s.own.holds w) (ht : Turns w w1 Hp.Own.emp (irow v r.its)) {k : Nat} (hk : k < 8) : Turns w (put6 w1 s.g k r v) s.own (s.put k r v).own := by
  have t1 : Turns w w1 s.own (Hp.Own.both (irow v r.its) s.own) := ⟨ht.chg.mono fun _ _ hf => hf.elim, ⟨ht.now, Own.chg hs ht.chg (fun _ _ hf => hf), fun b h1 h2 => (ht.near b h1).elim (fun hf => hf) (fun hge => by have := s.own.lt hs b h2; omega)⟩,
    fun b hb => hb.elim (fun h1 => (ht.near b h1).elim (fun hf => hf.elim) Or.inr) Or.inl⟩
  refine t1.trans ?_
  obtain ⟨hN, ⟨hB, hF, dBF⟩, dN⟩ := t1.now
  have hc : Chg (fun b => b = s.g) w1 (put6 w1 s.g k r v) := by
    unfold put6
    repeat (first | (with_reducible exact Chg.refl _ _) | (with_reducible refine Chg.set ?_ (Or.inr (by simp)) _))
  have hB2 : Blk (put6 w1 s.g k r v) s.g (s.put k r v).cells 127 := by
    rw [RlS.put_cells s k hk r v]
    unfold put6
    exact (((((hB.set _ _).set _ _).set _ _).set _ _).set _ _).set _ _
  have hN2 : (irow v r.its).holds (put6 w1 s.g k r v) := Own.chg hN hc (fun b hb e => dN b hb (Or.inl e))
  have hF2 : ∀ j, (s.fam j).holds (put6 w1 s.g k r v) := fun j => Own.chg (hF.1 j) hc (fun b hb e => dBF b e ⟨j, hb⟩)
  have hfam : ∀ j : Fin 8, (s.put k r v).fam j = if j.val = k then irow v r.its else s.fam j := fun j => by
    unfold RlS.fam RlS.put
    simp only []
    split <;> rfl
  refine ⟨hc.mono fun b _ e => Or.inr (Or.inl e), ⟨hB2, ⟨fun j => ?_, fun i j b hi hj => ?_⟩, fun b e hf => ?_⟩, fun b hb => Or.inl ?_⟩
  · rw [hfam]
    split
    · exact hN2
    · exact hF2 j
  · rw [hfam] at hi hj
    split at hi <;> split at hj
    · rename_i e1 e2; exact Fin.ext (e1.trans e2.symm)
    · exact (dN b hi (Or.inr ⟨j, hj⟩)).elim
    · exact (dN b hj (Or.inr ⟨i, hi⟩)).elim
    · exact hF.2 i j b hi hj
  · obtain ⟨j, hj⟩ := hf
    rw [hfam] at hj
    split at hj
    · exact dN b hj (Or.inl e)
    · exact dBF b e ⟨j, hj⟩
  · rcases hb with e | ⟨j, hj⟩
    · exact Or.inr (Or.inl e)
    · rw [hfam] at hj
      split at hj
      · exact Or.inl hj
      · exact Or.inr (Or.inr ⟨j, hj⟩)
/-- What Set tells. -/
def RlS.setE (s : RlS) (k : Int) (r : RwA) : Int := if ¬ (0 ≤ k ∧ k < 8) then 70 else if may r = false then 72 else if s.is k.toNat = true ∧ (r.num ≤ (s.row k.toNat).num ∨ r.at_ ≤ (s.row k.toNat).at_) then 71 else 0
theorem set_aux (s : RlS) (k : Int) (r : RwA) (A : Option Addr) (n c : Nat) (w : World) (z : Int) (P : Value → Hp.Own) (hz : s.setE k r = z) (hP : ∀ v, P v = (if z = 0 then s.put k.toNat r v else s).own) (hs : s.own.holds w) (hok : s.ok) (hx : Src w (.slice A n c) n 1 (r.its.map Value.string)) (hn : n * 16 ≤ 140737488355328) :
    Calls Try.prog 42 #[.pointer (some ⟨s.g, 0, none⟩), .int .i64 k, .agg (r.cells (.slice A n c))] w fun e w' => e = .returned (.int .i64 z) ∧ ∃ v, Turns w w' s.own (P v) := by
  have HTH := Lib.hid (fun W => there_any k W)
  have HIL := Lib.hid (show r.its.length = n by have := hx.1; simpa using this)
  have HMY := Lib.hid (fun W (hc : Chg (fun _ => False) w W) => may_any r A n c W (Src.keep0 hx hc))
  have HCP := Lib.hid (fun W (hc : Chg (fun _ => False) w W) => copied_any r A n c W (Src.keep0 hx hc) hn)
  have HS := Lib.hid hs
  have HP := Lib.hid hP
  have HZ := Lib.hid hz
  clear hP
  by_cases hk : 0 ≤ k ∧ k < 8
  · obtain ⟨j, rfl⟩ : ∃ j : Nat, k = j := ⟨k.toNat, by omega⟩
    have hj : j < 8 := by omega
    have hth : decide (0 ≤ (j : Int) ∧ (j : Int) < 8) = true := by simpa using hk
    rw [hth] at HTH
    unfold RlS.setE at hz
    rw [if_neg (fun h => h hk)] at hz
    simp only [Int.toNat_natCast] at hz
    by_cases hm : may r = true
    · rw [hm] at HMY
      rw [hm, if_neg (by simp)] at hz
      have hz3 : ((s.is j = true ∧ (r.num ≤ (s.row j).num ∨ r.at_ ≤ (s.row j).at_)) ∧ z = 71) ∨ (¬ (s.is j = true ∧ (r.num ≤ (s.row j).num ∨ r.at_ ≤ (s.row j).at_)) ∧ z = 0) := by
        by_cases ht : s.is j = true ∧ (r.num ≤ (s.row j).num ∨ r.at_ ≤ (s.row j).at_)
        · rw [if_pos ht] at hz; exact Or.inl ⟨ht, hz.symm⟩
        · rw [if_neg ht] at hz; exact Or.inr ⟨ht, hz.symm⟩
      clear hz
      obtain ⟨b0, b1, b2, b3, b4, b5⟩ := s.at_ hj
      have d0 := (hs.1.cell (j * 6)).trans b0
      have d1 := (hs.1.cell (j * 6 + 1)).trans b1
      have d2 := (hs.1.cell (j * 6 + 1 + 1)).trans b2
      have d3 := (hs.1.cell (j * 6 + 1 + 2)).trans b3
      have d4 := (hs.1.cell (j * 6 + 1 + 3)).trans b4
      have d5 := (hs.1.cell (j * 6 + 1 + 4)).trans b5
      have B0 := Lib.hid b0
      have B1 := Lib.hid b1
      have B2 := Lib.hid b2
      have B3 := Lib.hid b3
      have B4 := Lib.hid b4
      have B5 := Lib.hid b5
      have HBL := Lib.hid (show Blk w s.g s.cells 127 from hs.1)
      have hgl : s.g < w.heap.size := Blk.lt hs.1
      have hd : decide ((j : Int) < 8) = true := by simp; omega
      have hji : (j : Int) < 8 := by omega
      obtain ⟨A', c', hv, _⟩ := src_items hs hj
      rw [hv] at d5
      have HR := Lib.hid (show r = r from rfl)
      obtain ⟨num, at_, code, m, xs⟩ := r
      simp only [RwA.cells] at HMY HCP hz3 ⊢
      have HC := Lib.hid ((Chg.refl (fun _ => False) w).alloc (.cells #[.int .i64 num, .int .i64 at_, .int .i64 code, .int .i64 m, .slice A n c] 75))
      have HBX := Lib.hid (Blk.new w #[.int .i64 num, .int .i64 at_, .int .i64 code, .int .i64 m, .slice A n c] 75)
      obtain ⟨o1, ho1⟩ : ∃ o, (s.row j).num = o := ⟨_, rfl⟩
      obtain ⟨o2, ho2⟩ : ∃ o, (s.row j).at_ = o := ⟨_, rfl⟩
      rw [ho1, ho2] at hz3
      rw [ho1] at d1
      rw [ho2] at d2
      generalize (s.row j).code = o3 at *
      generalize (s.row j).n = o4 at *
      generalize (s.row j).its.length = o5 at *
      obtain ⟨ib, hib⟩ : ∃ b, s.is j = b := ⟨_, rfl⟩
      rw [hib] at d0 hz3
      clear hs hok hx hk hth hm hv b0 b1 b2 b3 b4 b5 ho1 ho2 hib
      rcases hz3 with ⟨⟨rfl, ht⟩, rfl⟩ | ⟨ht, rfl⟩
      · have e1 : (decide (num ≤ o1) = true ∧ True) ∨ (decide (num ≤ o1) = false ∧ decide (at_ ≤ o2) = true) := by
          by_cases h : num ≤ o1
          · left; exact ⟨by simpa using h, trivial⟩
          · right; exact ⟨by simpa using h, by simp; omega⟩
        clear ht
        rcases e1 with ⟨e1, e2⟩ | ⟨e1, e2⟩
        all_goals
          go_enter Try.func42, Try.ntmps42
          go_wp2_with (first
            | (go_at_call 84; (with_reducible refine (HTH.out _).mono ?_); rintro e w1 ⟨rfl, rfl⟩)
            | (go_at_call 86; (with_reducible refine (HMY.out _ HC.out).mono ?_); rintro e w1 ⟨rfl, hc1⟩; have HC1 := Lib.hid (HC.out.trans hc1); obtain ⟨⟨p0, p1, p2, p3, p4⟩, -, -, -, -, -, hl1⟩ := Blk.five (HBX.out.chg hc1 (fun h => h)); have k0 := (HC1.out.cell (p := ⟨s.g, j * 6, none⟩) hgl (fun h => h)).trans d0; have k1 := (HC1.out.cell (p := ⟨s.g, j * 6 + 1, none⟩) hgl (fun h => h)).trans d1; have k2 := (HC1.out.cell (p := ⟨s.g, j * 6 + 1 + 1, none⟩) hgl (fun h => h)).trans d2; have k3 := (HC1.out.cell (p := ⟨s.g, j * 6 + 1 + 2, none⟩) hgl (fun h => h)).trans d3; have k4 := (HC1.out.cell (p := ⟨s.g, j * 6 + 1 + 3, none⟩) hgl (fun h => h)).trans d4; have k5 := (HC1.out.cell (p := ⟨s.g, j * 6 + 1 + 4, none⟩) hgl (fun h => h)).trans d5; clear hc1))
          go_ret
          exact ⟨rfl, .slice none 0 0, by rw [HP.out, if_neg (by decide)]; exact Turns.of_kept HS.out (HC1.out.alloc _)⟩
      · have e1 : (ib = false ∧ True ∧ True) ∨ (ib = true ∧ decide (num ≤ o1) = false ∧ decide (at_ ≤ o2) = false) := by
          cases ib
          · left; exact ⟨rfl, trivial, trivial⟩
          · right
            have h1 : ¬ num ≤ o1 := fun h => ht ⟨rfl, Or.inl h⟩
            have h2 : ¬ at_ ≤ o2 := fun h => ht ⟨rfl, Or.inr h⟩
            exact ⟨rfl, by simpa using h1, by simpa using h2⟩
        clear ht
        rcases e1 with ⟨rfl, e1, e2⟩ | ⟨rfl, e1, e2⟩
        all_goals
          go_enter Try.func42, Try.ntmps42
          go_wp2_with (first
            | (go_at_call 84; (with_reducible refine (HTH.out _).mono ?_); rintro e w1 ⟨rfl, rfl⟩)
            | (go_at_call 86; (with_reducible refine (HMY.out _ HC.out).mono ?_); rintro e w1 ⟨rfl, hc1⟩; have HC1 := Lib.hid (HC.out.trans hc1); obtain ⟨⟨p0, p1, p2, p3, p4⟩, -, -, -, -, -, hl1⟩ := Blk.five (HBX.out.chg hc1 (fun h => h)); have k0 := (HC1.out.cell (p := ⟨s.g, j * 6, none⟩) hgl (fun h => h)).trans d0; have k1 := (HC1.out.cell (p := ⟨s.g, j * 6 + 1, none⟩) hgl (fun h => h)).trans d1; have k2 := (HC1.out.cell (p := ⟨s.g, j * 6 + 1 + 1, none⟩) hgl (fun h => h)).trans d2; have k3 := (HC1.out.cell (p := ⟨s.g, j * 6 + 1 + 2, none⟩) hgl (fun h => h)).trans d3; have k4 := (HC1.out.cell (p := ⟨s.g, j * 6 + 1 + 3, none⟩) hgl (fun h => h)).trans d4; have k5 := (HC1.out.cell (p := ⟨s.g, j * 6 + 1 + 4, none⟩) hgl (fun h => h)).trans d5; clear hc1))
          have HC2 := Lib.hid fun o => (HC1.out.alloc o).drew
          go_region_law (go_simp; go_at_call 85; (with_reducible refine (HCP.out _ ?_).mono ?_); exact HC2.out _; rintro e w3 ⟨A3, c3, rfl, ht3⟩; have HT3 := Lib.hid ((Turns.of_kept (O := Hp.Own.emp) (w := w) trivial (HC2.out _)).trans ht3); have hb3 := HBL.out.chg ((HC2.out _).trans ht3.chg) (fun h => h); have x0 := hb3.cell (j * 6); rw [B0.out] at x0; have x1 := hb3.cell (j * 6 + 1); rw [B1.out] at x1; have x2 := hb3.cell (j * 6 + 1 + 1); rw [B2.out] at x2; have x3 := hb3.cell (j * 6 + 1 + 2); rw [B3.out] at x3; have x4 := hb3.cell (j * 6 + 1 + 3); rw [B4.out] at x4; have x5 := hb3.cell (j * 6 + 1 + 4); rw [B5.out] at x5; have y0 := hb3.frozen (j * 6); have y1 := hb3.frozen (j * 6 + 1); have y2 := hb3.frozen (j * 6 + 1 + 1); have y3 := hb3.frozen (j * 6 + 1 + 2); have y4 := hb3.frozen (j * 6 + 1 + 3); have y5 := hb3.frozen (j * 6 + 1 + 4); clear hb3 ht3)
          all_goals
            go_wp2_with fail
            go_ret
            refine ⟨rfl, .slice A3 n c3, ?_⟩
            rw [HP.out]
            simp only [Int.toNat_natCast, if_true]
            refine set_turn (r := ⟨num, at_, code, m, xs⟩) HS.out (?_ : Turns w w3 Hp.Own.emp (irow (.slice A3 n c3) xs)) hj
            have h9 := HT3.out
            unfold its at h9
            unfold irow
            rw [show xs.length = n from HIL.out]
            exact h9
    · have hm : may r = false := by simpa using hm
      rw [hm] at HMY
      rw [hm, if_pos rfl] at hz
      subst hz
      obtain ⟨num, at_, code, m, xs⟩ := r
      simp only [RwA.cells] at HMY HCP ⊢
      have HC := Lib.hid ((Chg.refl (fun _ => False) w).alloc (.cells #[.int .i64 num, .int .i64 at_, .int .i64 code, .int .i64 m, .slice A n c] 75))
      clear hs hok hx hk hth hm
      go_enter Try.func42, Try.ntmps42
      go_wp2_with (first
        | (go_at_call 84; (with_reducible refine (HTH.out _).mono ?_); rintro e w1 ⟨rfl, rfl⟩)
        | (go_at_call 86; (with_reducible refine (HMY.out _ HC.out).mono ?_); rintro e w1 ⟨rfl, hc1⟩; have HC1 := Lib.hid (HC.out.trans hc1); clear hc1))
      go_ret
      exact ⟨rfl, .slice none 0 0, by rw [HP.out, if_neg (by decide)]; exact Turns.of_kept HS.out HC1.out⟩
  · have e : s.setE k r = 70 := by unfold RlS.setE; rw [if_pos hk]
    rw [e] at hz
    subst hz
    have hth : decide (0 ≤ k ∧ k < 8) = false := decide_eq_false hk
    rw [hth] at HTH
    obtain ⟨num, at_, code, m, xs⟩ := r
    simp only [RwA.cells] at HMY HCP ⊢
    have HC := Lib.hid ((Chg.refl (fun _ => False) w).alloc (.cells #[.int .i64 num, .int .i64 at_, .int .i64 code, .int .i64 m, .slice A n c] 75))
    clear e hs hk hth hok hx
    go_enter Try.func42, Try.ntmps42
    go_wp2_with (go_at_call 84; (with_reducible refine (HTH.out _).mono ?_); rintro e w1 ⟨rfl, rfl⟩)
    go_ret
    exact ⟨rfl, .slice none 0 0, by rw [HP.out, if_neg (by decide)]; exact Turns.of_kept HS.out HC.out⟩
theorem set_any (s : RlS) (k : Int) (r : RwA) (A : Option Addr) (n c : Nat) (w : World) (hs : s.own.holds w) (hok : s.ok) (hx : Src w (.slice A n c) n 1 (r.its.map Value.string)) (hn : n * 16 ≤ 140737488355328) :
    Calls Try.prog 42 #[.pointer (some ⟨s.g, 0, none⟩), .int .i64 k, .agg (r.cells (.slice A n c))] w fun e w' => e = .returned (.int .i64 (s.setE k r)) ∧ ∃ v, Turns w w' s.own (if s.setE k r = 0 then s.put k.toNat r v else s).own :=
  set_aux s k r A n c w _ (fun v => (if s.setE k r = 0 then s.put k.toNat r v else s).own) rfl (fun _ => rfl) hs hok hx hn
end Go.Proofs.Ytkpgdonpmfebaaa.Rl

/- Bytes as cells; numbers in groups of seven bits; a writer of the program. Plain. -/
namespace Go.Proofs.Ytkpgdonpmfebaaa.Bt
open Go.RowKit Go.Hp
set_option linter.unusedSimpArgs false
set_option linter.unusedVariables false

def bv (b : UInt8) : Value := .int .u8 b.toNat
/-- A number in groups of seven bits, the low ones first. -/
def vi (n : Nat) : List UInt8 := if h : n < 128 then [UInt8.ofNat n] else UInt8.ofNat (n % 128 + 128) :: vi (n / 128)
termination_by n
decreasing_by omega
theorem vi_lt {n : Nat} (h : n < 128) : vi n = [UInt8.ofNat n] := by rw [vi, dif_pos h]
theorem vi_ge {n : Nat} (h : ¬ n < 128) : vi n = UInt8.ofNat (n % 128 + 128) :: vi (n / 128) := by rw [vi, dif_neg h]
theorem vi_len (k : Nat) : ∀ n, n < 128 ^ (k + 1) → (vi n).length ≤ k + 1 := by
  induction k with
  | zero => intro n h; rw [vi_lt (by simpa using h)]; simp
  | succ k ih =>
    intro n h
    by_cases h1 : n < 128
    · rw [vi_lt h1]; simp
    · rw [vi_ge h1, List.length_cons]
      have := ih (n / 128) (by rw [Nat.pow_succ] at h; exact Nat.div_lt_of_lt_mul (by rw [Nat.mul_comm]; exact h))
      omega
theorem vi_len64 (n : Nat) (h : n < 2 ^ 64) : (vi n).length ≤ 10 := vi_len 9 n (by have : (2 : Nat) ^ 64 ≤ 128 ^ 10 := by decide
                                                                                   omega)
theorem vi_pos (n : Nat) : 1 ≤ (vi n).length := by
  by_cases h : n < 128
  · rw [vi_lt h]; simp
  · rw [vi_ge h]; simp

structure WrS where
  g : Nat
  v : Value
  bs : List UInt8
  bad : Bool
def WrS.own (s : WrS) : Own := Own.both (Own.blk s.g #[s.v, .bool s.bad] 106) (Own.row 5 1 s.v s.bs.length (s.bs.map bv))
theorem WrS.cells {s : WrS} {w : World} (h : s.own.holds w) : w.cell? ⟨s.g, 0, none⟩ = some s.v ∧ w.cell? ⟨s.g, 1, none⟩ = some (.bool s.bad) ∧ w.frozen? ⟨s.g, 0, none⟩ = false ∧ w.frozen? ⟨s.g, 1, none⟩ = false :=
  ⟨Blk.cell h.1 0, Blk.cell h.1 1, Blk.frozen h.1 0, Blk.frozen h.1 1⟩
/-- Behind an append and the store of what came of it. -/
theorem WrS.after {s : WrS} {w W W1 : World} {O : Own} (h : Turns w W O s.own) (hg : W.grownBy W1 s.v.ownBlock) : W1.cell? ⟨s.g, 0, none⟩ = some s.v ∧ W1.frozen? ⟨s.g, 0, none⟩ = false ∧ W1.cell? ⟨s.g, 1, none⟩ = some (.bool s.bad) := by
  have hb1 : Blk W1 s.g #[s.v, .bool s.bad] 106 := Blk.chg h.now.1 (Chg.of_grown hg) (fun e => h.now.2.2 s.g rfl e)
  exact ⟨hb1.cell 0, hb1.frozen 0, hb1.cell 1⟩
theorem WrS.put {s : WrS} {w W W1 : World} {O : Own} (h : Turns w W O s.own) (v1 : Value) (cs : List UInt8) (h1 : W1.ownsRow 0 5 1 v1 (s.bs.length + cs.length) ((s.bs.map bv) ++ cs.map bv)) (hg : W.grownBy W1 s.v.ownBlock)
    (hat : v1.ownBlock = s.v.ownBlock ∨ v1.ownBlock = some W.heap.size) : Turns w (W1.setCell ⟨s.g, 0, none⟩ v1) O ({ s with v := v1, bs := s.bs ++ cs } : WrS).own := by
  have hgl : s.g < W.heap.size := Blk.lt h.now.1
  have hgs := hg.size
  have hb1 : Blk W1 s.g #[s.v, .bool s.bad] 106 := Blk.chg h.now.1 (Chg.of_grown hg) (fun e => h.now.2.2 s.g rfl e)
  have hne : v1.ownBlock ≠ some s.g := by
    rcases hat with e | e
    · rw [e]; exact fun hh => h.now.2.2 s.g rfl hh
    · rw [e]; intro hh; have := Option.some.inj hh; omega
  refine h.trans ⟨?_, ⟨?_, ?_, ?_⟩, ?_⟩
  · exact Chg.set (S := s.own.foot) (Chg.mono (T := s.own.foot) (Chg.of_grown hg) (fun k _ hk => Or.inr hk)) (p := ⟨s.g, 0, none⟩) (Or.inr (Or.inl rfl)) _
  · show Blk _ s.g #[v1, .bool s.bad] 106
    simpa using hb1.set 0 v1
  · show (W1.setCell ⟨s.g, 0, none⟩ v1).ownsRow 0 5 1 v1 (s.bs ++ cs).length ((s.bs ++ cs).map bv)
    rw [List.length_append, List.map_append]
    exact row_heap h1 fun b hb => Below.heap_setCell _ _ _ _ (fun e => hne (by rw [hb, e]))
  · exact fun b hb1 hb2 => hne (by rw [show b = s.g from hb1] at hb2; exact hb2)
  · rintro b (hb | hb)
    · exact Or.inl (Or.inl hb)
    · have hb : v1.ownBlock = some b := hb
      rcases hat with e | e
      · exact Or.inl (Or.inr (show s.v.ownBlock = some b by rw [← e]; exact hb))
      · rw [e] at hb; cases hb; exact Or.inr (Nat.le_refl _)
end Go.Proofs.Ytkpgdonpmfebaaa.Bt

/- The writer of package bits: what each function does to it. -/
namespace Go.Proofs.Ytkpgdonpmfebaaa.Bt
open Go.RowKit Go.Hp
attribute [local go_sem] min2_lean min_two max2_lean max_two
set_option linter.unusedSimpArgs false
set_option linter.unusedVariables false
set_option maxRecDepth 100000

theorem Try.info5 : (Try.prog.info? 5).map (fun i => (i.zero, i.size, i.bytes)) = some (some (.int .u8 0), 1, 1) := by kernel_rfl

theorem or128 (m : Nat) : bits BinOp.or IntKind.u8 ((m : Int) % 256) 128 = ((m % 128 + 128 : Nat) : Int) := by
  have h1 : ∀ a, a < 256 → a ||| 128 = a % 128 + 128 := by decide
  have h2 := u8_or_nat (m % 256) 128 (Nat.mod_lt _ (by omega)) (by omega)
  rw [h1 (m % 256) (Nat.mod_lt _ (by omega))] at h2
  rw [show (m % 128 + 128 : Nat) = (m % 256 % 128 + 128 : Nat) by omega, ← h2]
  rfl
set_option maxHeartbeats 1000000 in
theorem groups_any (s : WrS) (n : Nat) (w : World) (hs : s.own.holds w) (hn : n < 2 ^ 64) (hl : s.bs.length + 10 ≤ 140737488355328) :
    Calls Try.prog 94 #[.pointer (some ⟨s.g, 0, none⟩), .int .u64 n] w fun r w' => r = .returned (.tuple #[]) ∧ ∃ v', Turns w w' s.own ({ s with v := v', bs := s.bs ++ vi n } : WrS).own := by
  obtain ⟨g, v, bs, bad⟩ := s
  simp only [] at hl
  have HS := Lib.hid (Turns.refl hs)
  have hlen := vi_len64 n hn
  obtain ⟨i0, hi0, hz0, hz1, hz2⟩ := info_parts Try.info5
  clear hs
  have HN := Lib.hid hn
  clear hn
  go_enter Try.func94, Try.ntmps94
  go_wp2_with fail
  go_loopw [1] (fun x wr => ∃ (m : Nat) (v' : Value) (bs' : List UInt8), x = .int .u64 m ∧ m < 2 ^ 64 ∧ bs' ++ vi m = bs ++ vi n ∧ Turns w wr (WrS.mk g v bs bad).own (WrS.mk g v' bs' bad).own) (fun x _ => (intOf x).toNat)
  case atStart => exact ⟨n, v, bs, rfl, HN.out, rfl, HS.out⟩
  case round =>
    obtain ⟨m, v', bs', rfl, hm, he, ht⟩ := hrel
    have hll : bs'.length + (vi m).length ≤ bs.length + 10 := by
      have := congrArg List.length he
      simp only [List.length_append] at this
      omega
    have hvp := vi_pos m
    have HE := Lib.hid he
    have HT := Lib.hid ht
    obtain ⟨c0, c1, f0, f1⟩ := WrS.cells ht.now
    simp only [] at c0 c1 f0 f1
    clear he ht
    have hm2 : m < 18446744073709551616 := hm
    clear hm
    by_cases hlt : m < 128
    · have hd : decide ((127 : Int) < (m : Int)) = false := by simp; omega
      go_wp2_with (at_builtin; refine wpList_append_own_at _ rfl (.tmp 24) (.tmp 27) 38 rfl 0 5 i0 (.int .u8 0) 1 1 Try.underlying38 hi0 hz0 hz1 hz2 rfl (by decide) v' bs'.length (bs'.map bv) rfl (HT.out.alloc _).now.2.1 ⟨wr.heap.size, 0, none⟩ 1 1 _ rfl rfl (cell_one_new _ _ _) (by simp [Value.oneCell']) (by simp only [maxLen]; omega) (by omega) (Nat.zero_le _) ?_; intro v1 w1 ho1 hg1 _ hat1; have HA := Lib.hid (WrS.after (HT.out.alloc _) hg1); have a0 := HA.out.1; have a1 := HA.out.2.1; have HO1 := Lib.hid ho1; have HG1 := Lib.hid hg1; have HAT := Lib.hid hat1; obtain ⟨gn, cn, hvn, _, _⟩ := row_form ho1 (by omega); have HV := Lib.hid hvn; rw [hvn]; clear ho1 hg1 hat1 hvn)
      go_end0
      refine ⟨rfl, v1, ?_⟩
      rw [← HV.out]
      have hb : bv (UInt8.ofNat m) = .int .u8 (m : Int) := by unfold bv; rw [UInt8.toNat_ofNat_of_lt' (by simp [UInt8.size]; omega)]
      have := WrS.put (HT.out.alloc (.cells #[.int .u8 (m : Int)] 5)) v1 [UInt8.ofNat m] (by rw [List.map_cons, List.map_nil, hb]; exact HO1.out) HG1.out HAT.out
      rw [vi_lt hlt] at HE
      show Turns _ _ _ (WrS.mk g v1 (bs ++ vi n) bad).own
      rw [← HE.out]
      exact this
    · have hd : decide ((127 : Int) < (m : Int)) = true := by simp; omega
      go_wp2_with (at_builtin; refine wpList_append_own_at _ rfl (.tmp 10) (.tmp 14) 38 rfl 0 5 i0 (.int .u8 0) 1 1 Try.underlying38 hi0 hz0 hz1 hz2 rfl (by decide) v' bs'.length (bs'.map bv) rfl (HT.out.alloc _).now.2.1 ⟨wr.heap.size, 0, none⟩ 1 1 _ rfl rfl (cell_one_new _ _ _) (by simp [Value.oneCell']) (by simp only [maxLen]; omega) (by omega) (Nat.zero_le _) ?_; intro v1 w1 ho1 hg1 _ hat1; have HA := Lib.hid (WrS.after (HT.out.alloc _) hg1); have a0 := HA.out.1; have a1 := HA.out.2.1; have HO1 := Lib.hid ho1; have HG1 := Lib.hid hg1; have HAT := Lib.hid hat1; obtain ⟨gn, cn, hvn, _, _⟩ := row_form ho1 (by omega); have HV := Lib.hid hvn; rw [hvn]; clear ho1 hg1 hat1 hvn)
      have hb : bv (UInt8.ofNat (m % 128 + 128)) = .int .u8 (bits BinOp.or IntKind.u8 ((m : Int) % 256) 128) := by rw [or128]; unfold bv; rw [UInt8.toNat_ofNat_of_lt' (by simp [UInt8.size]; omega)]
      have HP := Lib.hid (WrS.put (HT.out.alloc (.cells #[.int .u8 (bits BinOp.or IntKind.u8 ((m : Int) % 256) 128)] 5)) v1 [UInt8.ofNat (m % 128 + 128)] (by rw [List.map_cons, List.map_nil, hb]; exact HO1.out) HG1.out HAT.out)
      rw [vi_ge hlt] at HE
      have HE2 := Lib.hid (show (bs' ++ [UInt8.ofNat (m % 128 + 128)]) ++ vi (m / 128) = bs ++ vi n by rw [← HE.out]; simp)
      rw [HV.out] at HP
      clear hb
      go_wp2_with fail
      go_roundw
      case rel => exact ⟨m / 128, _, _, by simp, by omega, HE2.out, HP.out⟩
      case measure => simp [intOf]; omega
theorem newW_any (w : World) : Calls Try.prog 15 #[] w fun r w' => r = .returned (.pointer (some ⟨w.heap.size, 0, none⟩)) ∧ Turns w w' Own.emp (WrS.mk w.heap.size (.slice none 0 0) [] false).own := by
  go_enter Try.func15, Try.ntmps15
  go_wp2
  go_ret
  refine ⟨rfl, (Chg.refl _ _).alloc _, ⟨Blk.new _ _ _, World.ownsRow_nil _ _ _ _, fun b _ h2 => by cases h2⟩, ?_⟩
  rintro b (hb | hb)
  · exact Or.inr (by have hb : b = w.heap.size := hb; omega)
  · cases hb
theorem num_neg (s : WrS) (n : Int) (w : World) (hs : s.own.holds w) (hn : n < 0) :
    Calls Try.prog 59 #[.pointer (some ⟨s.g, 0, none⟩), .int .i64 n] w fun r w' => r = .returned (.tuple #[]) ∧ Turns w w' s.own ({ s with bad := true } : WrS).own := by
  obtain ⟨g, v, bs, bad⟩ := s
  obtain ⟨c0, c1, f0, f1⟩ := WrS.cells hs
  simp only [] at c0 c1 f0 f1
  have hd : decide (n < 0) = true := by simpa using hn
  have HS := Lib.hid hs
  clear hs
  go_enter Try.func59, Try.ntmps59
  go_wp2
  go_end0
  have hne : ∀ b, b = g → v.ownBlock = some b → False := fun b h1 h2 => HS.out.2.2 b h1 h2
  refine ⟨rfl, Chg.set (Chg.refl _ _) (p := ⟨g, 1, none⟩) (Or.inr (Or.inl rfl)) _, ⟨?_, ?_, HS.out.2.2⟩, fun b hb => Or.inl hb⟩
  · show Blk _ g #[v, .bool true] 106
    simpa using Blk.set HS.out.1 1 (.bool true)
  · exact row_heap HS.out.2.1 fun b hb => Below.heap_setCell _ _ _ _ (fun e => hne b e hb)
theorem num_bad (s : WrS) (n : Int) (w : World) (hs : s.own.holds w) (hn : 0 ≤ n) (hb : s.bad = true) :
    Calls Try.prog 59 #[.pointer (some ⟨s.g, 0, none⟩), .int .i64 n] w fun r w' => r = .returned (.tuple #[]) ∧ w = w' := by
  obtain ⟨g, v, bs, bad⟩ := s
  simp only [] at hb
  subst hb
  obtain ⟨c0, c1, f0, f1⟩ := WrS.cells hs
  simp only [] at c0 c1 f0 f1
  have hd : decide (n < 0) = false := by simp; omega
  clear hs
  go_enter Try.func59, Try.ntmps59
  go_wp2
  go_end0
  exact ⟨rfl, rfl⟩
theorem num_ok (s : WrS) (n : Nat) (w : World) (hs : s.own.holds w) (hn : n < 2 ^ 63) (hb : s.bad = false) (hl : s.bs.length + 10 ≤ 140737488355328) :
    Calls Try.prog 59 #[.pointer (some ⟨s.g, 0, none⟩), .int .i64 n] w fun r w' => r = .returned (.tuple #[]) ∧ ∃ v', Turns w w' s.own ({ s with v := v', bs := s.bs ++ vi n } : WrS).own := by
  obtain ⟨g, v, bs, bad⟩ := s
  simp only [] at hb
  subst hb
  have HG := Lib.hid (groups_any (WrS.mk g v bs false) n w hs (by omega) hl)
  obtain ⟨c0, c1, f0, f1⟩ := WrS.cells hs
  simp only [] at c0 c1 f0 f1
  have hd : decide ((n : Int) < 0) = false := by simp
  have hn2 : n < 9223372036854775808 := hn
  clear hs hn
  go_enter Try.func59, Try.ntmps59
  go_wp2_with (go_at_call 94; refine HG.out.mono ?_; rintro r w1 ⟨rfl, v1, ht⟩)
  go_end0
  exact ⟨rfl, v1, ht⟩
end Go.Proofs.Ytkpgdonpmfebaaa.Bt

/- The writer of package bits: Signed, Text. -/
namespace Go.Proofs.Ytkpgdonpmfebaaa.Bt
open Go.RowKit Go.Hp
attribute [local go_sem] min2_lean min_two max2_lean max_two
set_option linter.unusedSimpArgs false
set_option linter.unusedVariables false
set_option maxRecDepth 100000

/-- A number with its sign, as the program folds it. -/
def zz (n : Int) : Nat := if n < 0 then (-(n + 1)).toNat * 2 + 1 else n.toNat * 2
theorem zz_lt (n : Int) (h0 : -9223372036854775808 ≤ n) (h1 : n ≤ 9223372036854775807) : zz n < 2 ^ 64 := by
  unfold zz
  split <;> omega
theorem zz_bits (n : Int) (h0 : -9223372036854775808 ≤ n) (h1 : n ≤ 9223372036854775807) :
    bits BinOp.xor IntKind.u64 (IntKind.u64.wrap (IntKind.u64.wrap n * 2)) (IntKind.u64.wrap (n / 9223372036854775808)) = ((zz n : Nat) : Int) := by
  by_cases hn : n < 0
  · have e1 : IntKind.u64.wrap (IntKind.u64.wrap n * 2) = (((2 * n + 18446744073709551616).toNat : Nat) : Int) := by
      rw [IntKind.wrap_u64, IntKind.wrap_u64]
      omega
    have e2 : IntKind.u64.wrap (n / 9223372036854775808) = ((2 ^ 64 - 1 : Nat) : Int) := by
      rw [show n / 9223372036854775808 = -1 by omega]
      decide
    rw [e1, e2, bits_xor_u64_nat _ _ (by omega) (by decide), Nat.xor_comm, Lib.xor_ones64 _ (by omega)]
    unfold zz
    rw [if_pos hn]
    omega
  · have e1 : IntKind.u64.wrap (IntKind.u64.wrap n * 2) = (((2 * n).toNat : Nat) : Int) := by
      rw [IntKind.wrap_u64, IntKind.wrap_u64]
      omega
    have e2 : IntKind.u64.wrap (n / 9223372036854775808) = ((0 : Nat) : Int) := by
      rw [show n / 9223372036854775808 = 0 by omega]
      decide
    rw [e1, e2, bits_xor_u64_nat _ _ (by omega) (by decide), Nat.xor_zero]
    unfold zz
    rw [if_neg hn]
    omega
theorem signed_ok (s : WrS) (n : Int) (w : World) (hs : s.own.holds w) (hn0 : -9223372036854775808 ≤ n) (hn1 : n ≤ 9223372036854775807) (hb : s.bad = false) (hl : s.bs.length + 10 ≤ 140737488355328) :
    Calls Try.prog 60 #[.pointer (some ⟨s.g, 0, none⟩), .int .i64 n] w fun r w' => r = .returned (.tuple #[]) ∧ ∃ v', Turns w w' s.own ({ s with v := v', bs := s.bs ++ vi (zz n) } : WrS).own := by
  obtain ⟨g, v, bs, bad⟩ := s
  simp only [] at hb
  subst hb
  have HG := Lib.hid (groups_any (WrS.mk g v bs false) (zz n) w hs (zz_lt n hn0 hn1) hl)
  have HZ := Lib.hid (zz_bits n hn0 hn1)
  obtain ⟨c0, c1, f0, f1⟩ := WrS.cells hs
  simp only [] at c0 c1 f0 f1
  clear hs
  go_enter Try.func60, Try.ntmps60
  go_wp2_with (go_at_call 94; rw [HZ.out]; refine HG.out.mono ?_; rintro r w1 ⟨rfl, v1, ht⟩)
  go_end0
  exact ⟨rfl, v1, ht⟩
theorem signed_bad (s : WrS) (n : Int) (w : World) (hs : s.own.holds w) (hb : s.bad = true) :
    Calls Try.prog 60 #[.pointer (some ⟨s.g, 0, none⟩), .int .i64 n] w fun r w' => r = .returned (.tuple #[]) ∧ w = w' := by
  obtain ⟨g, v, bs, bad⟩ := s
  simp only [] at hb
  subst hb
  obtain ⟨c0, c1, f0, f1⟩ := WrS.cells hs
  simp only [] at c0 c1 f0 f1
  clear hs
  go_enter Try.func60, Try.ntmps60
  go_wp2
  go_end0
  exact ⟨rfl, rfl⟩
theorem text_bad (s : WrS) (x : ByteArray) (w : World) (hs : s.own.holds w) (hb : s.bad = true) :
    Calls Try.prog 61 #[.pointer (some ⟨s.g, 0, none⟩), .string x] w fun r w' => r = .returned (.tuple #[]) ∧ w = w' := by
  obtain ⟨g, v, bs, bad⟩ := s
  simp only [] at hb
  subst hb
  obtain ⟨c0, c1, f0, f1⟩ := WrS.cells hs
  simp only [] at c0 c1 f0 f1
  clear hs
  go_enter Try.func61, Try.ntmps61
  go_wp2
  go_end0
  exact ⟨rfl, rfl⟩
theorem strCells_bv (x : ByteArray) : Lib.strCells x = x.data.toList.map bv := rfl
set_option maxHeartbeats 1000000 in
theorem text_ok (s : WrS) (x : ByteArray) (w : World) (hs : s.own.holds w) (hb : s.bad = false) (hl : s.bs.length + x.size + 10 ≤ 140737488355328) :
    Calls Try.prog 61 #[.pointer (some ⟨s.g, 0, none⟩), .string x] w fun r w' => r = .returned (.tuple #[]) ∧ ∃ v', Turns w w' s.own ({ s with v := v', bs := s.bs ++ vi x.size ++ x.data.toList } : WrS).own := by
  obtain ⟨g, v, bs, bad⟩ := s
  simp only [] at hb hl
  subst hb
  have HG := Lib.hid (groups_any (WrS.mk g v bs false) x.size w hs (by omega) (by simp only []; omega))
  obtain ⟨c0, c1, f0, f1⟩ := WrS.cells hs
  simp only [] at c0 c1 f0 f1
  obtain ⟨i0, hi0, hz0, hz1, hz2⟩ := info_parts Try.info5
  have hvl := vi_len64 x.size (by omega)
  clear hs
  have hvp := vi_pos x.size
  generalize hvi : vi x.size = vx at *
  go_enter Try.func61, Try.ntmps61
  go_wp2_with (first
    | (go_at_call 94; refine HG.out.mono ?_; rintro r w1 ⟨rfl, v1, ht⟩; have HT := Lib.hid ht; have c0' := (WrS.cells ht.now).1; have f0' := (WrS.cells ht.now).2.2.1; clear ht; simp only [] at c0' f0')
    | (at_builtin; refine wpList_append_string_at _ rfl (.tmp 18) (.tmp 19) 38 9 rfl 0 5 i0 Try.underlying38 Try.underlying9 hi0 hz0 hz1 hz2 v1 (bs ++ vx).length ((bs ++ vx).map bv) rfl HT.out.now.2.1 x rfl (by simp only [maxLen, List.length_append]; omega) (by simp only [List.length_append]; omega) (Nat.zero_le _) ?_; intro v2 w2 ho1 hg1 hat1; have HA := Lib.hid (WrS.after HT.out hg1); have a0 := HA.out.1; have a1 := HA.out.2.1; have HO1 := Lib.hid ho1; have HG1 := Lib.hid hg1; have HAT := Lib.hid hat1; obtain ⟨gn, cn, hvn, _, _⟩ := row_form ho1 (by simp only [List.length_append]; omega); have HV := Lib.hid hvn; rw [hvn]; clear ho1 hg1 hat1 hvn))
  go_end0
  refine ⟨rfl, v2, ?_⟩
  have hv := HV.out
  rw [List.length_append] at hv
  rw [← hv]
  have := WrS.put HT.out v2 x.data.toList (by rw [← strCells_bv]; rw [show x.data.toList.length = x.size by rw [Array.length_toList]; rfl]; exact HO1.out) HG1.out HAT.out
  simpa using this
end Go.Proofs.Ytkpgdonpmfebaaa.Bt

/- The writer of package bits: Bool, Bytes, Done. -/
namespace Go.Proofs.Ytkpgdonpmfebaaa.Bt
open Go.RowKit Go.Hp
attribute [local go_sem] min2_lean min_two max2_lean max_two
set_option linter.unusedSimpArgs false
set_option linter.unusedVariables false
set_option maxRecDepth 100000

theorem bool_bad (s : WrS) (x : Bool) (w : World) (hs : s.own.holds w) (hb : s.bad = true) :
    Calls Try.prog 65 #[.pointer (some ⟨s.g, 0, none⟩), .bool x] w fun r w' => r = .returned (.tuple #[]) ∧ w = w' := by
  obtain ⟨g, v, bs, bad⟩ := s
  simp only [] at hb
  subst hb
  obtain ⟨c0, c1, f0, f1⟩ := WrS.cells hs
  simp only [] at c0 c1 f0 f1
  clear hs
  go_enter Try.func65, Try.ntmps65
  go_wp2
  refine bodyPost_ret (results_none rfl _ _ _) rfl ?_
  exact ⟨rfl, rfl⟩
theorem bv_one : bv 1 = .int .u8 1 := rfl
theorem bv_zero : bv 0 = .int .u8 0 := rfl
theorem bool_ok (s : WrS) (x : Bool) (w : World) (hs : s.own.holds w) (hb : s.bad = false) (hl : s.bs.length + 10 ≤ 140737488355328) :
    Calls Try.prog 65 #[.pointer (some ⟨s.g, 0, none⟩), .bool x] w fun r w' => r = .returned (.tuple #[]) ∧ ∃ v', Turns w w' s.own ({ s with v := v', bs := s.bs ++ [if x then 1 else 0] } : WrS).own := by
  obtain ⟨g, v, bs, bad⟩ := s
  simp only [] at hb hl
  subst hb
  have HS := Lib.hid (Turns.refl hs)
  obtain ⟨c0, c1, f0, f1⟩ := WrS.cells hs
  simp only [] at c0 c1 f0 f1
  obtain ⟨i0, hi0, hz0, hz1, hz2⟩ := info_parts Try.info5
  clear hs
  go_enter Try.func65, Try.ntmps65
  cases x
  · go_wp2_with (at_builtin; refine wpList_append_own_at _ rfl (.tmp 22) (.tmp 23) 38 rfl 0 5 i0 (.int .u8 0) 1 1 Try.underlying38 hi0 hz0 hz1 hz2 rfl (by decide) v bs.length (bs.map bv) rfl (HS.out.alloc _).now.2.1 ⟨w.heap.size, 0, none⟩ 1 1 _ rfl rfl (cell_one_new _ _ _) (by simp [Value.oneCell']) (by simp only [maxLen]; omega) (by omega) (Nat.zero_le _) ?_; intro v1 w1 ho1 hg1 _ hat1; have HA := Lib.hid (WrS.after (HS.out.alloc _) hg1); have a0 := HA.out.1; have a1 := HA.out.2.1; have HO1 := Lib.hid ho1; have HG1 := Lib.hid hg1; have HAT := Lib.hid hat1; obtain ⟨gn, cn, hvn, _, _⟩ := row_form ho1 (by omega); have HV := Lib.hid hvn; rw [hvn]; clear ho1 hg1 hat1 hvn)
    go_end0
    refine ⟨rfl, v1, ?_⟩
    rw [← HV.out]
    exact WrS.put (HS.out.alloc (.cells #[.int .u8 0] 5)) v1 [0] (by exact HO1.out) HG1.out HAT.out
  · go_wp2_with (at_builtin; refine wpList_append_own_at _ rfl (.tmp 13) (.tmp 14) 38 rfl 0 5 i0 (.int .u8 0) 1 1 Try.underlying38 hi0 hz0 hz1 hz2 rfl (by decide) v bs.length (bs.map bv) rfl (HS.out.alloc _).now.2.1 ⟨w.heap.size, 0, none⟩ 1 1 _ rfl rfl (cell_one_new _ _ _) (by simp [Value.oneCell']) (by simp only [maxLen]; omega) (by omega) (Nat.zero_le _) ?_; intro v1 w1 ho1 hg1 _ hat1; have HA := Lib.hid (WrS.after (HS.out.alloc _) hg1); have a0 := HA.out.1; have a1 := HA.out.2.1; have HO1 := Lib.hid ho1; have HG1 := Lib.hid hg1; have HAT := Lib.hid hat1; obtain ⟨gn, cn, hvn, _, _⟩ := row_form ho1 (by omega); have HV := Lib.hid hvn; rw [hvn]; clear ho1 hg1 hat1 hvn)
    refine bodyPost_ret (results_none rfl _ _ _) rfl ?_
    refine ⟨rfl, v1, ?_⟩
    rw [← HV.out]
    exact WrS.put (HS.out.alloc (.cells #[.int .u8 1] 5)) v1 [1] (by exact HO1.out) HG1.out HAT.out
theorem bytes_bad (s : WrS) (A : Option Addr) (m c : Nat) (w : World) (hs : s.own.holds w) (hb : s.bad = true) :
    Calls Try.prog 68 #[.pointer (some ⟨s.g, 0, none⟩), .slice A m c] w fun r w' => r = .returned (.tuple #[]) ∧ w = w' := by
  obtain ⟨g, v, bs, bad⟩ := s
  simp only [] at hb
  subst hb
  obtain ⟨c0, c1, f0, f1⟩ := WrS.cells hs
  simp only [] at c0 c1 f0 f1
  clear hs
  go_enter Try.func68, Try.ntmps68
  go_wp2
  go_end0
  exact ⟨rfl, rfl⟩
set_option maxHeartbeats 1000000 in
theorem bytes_ok (s : WrS) (A : Option Addr) (m c : Nat) (xs : List UInt8) (w : World) (hs : s.own.holds w) (hx : Src w (.slice A m c) m 1 (xs.map bv)) (hf : ∀ w', Chg s.own.foot w w' → Src w' (.slice A m c) m 1 (xs.map bv))
    (hb : s.bad = false) (hl : s.bs.length + xs.length + 10 ≤ 140737488355328) :
    Calls Try.prog 68 #[.pointer (some ⟨s.g, 0, none⟩), .slice A m c] w fun r w' => r = .returned (.tuple #[]) ∧ ∃ v', Turns w w' s.own ({ s with v := v', bs := s.bs ++ vi xs.length ++ xs } : WrS).own := by
  obtain ⟨g, v, bs, bad⟩ := s
  simp only [] at hb hl hf
  subst hb
  obtain rfl : m = xs.length := by have := hx.1; simpa using this.symm
  have HG := Lib.hid (groups_any (WrS.mk g v bs false) xs.length w hs (by omega) (by simp only []; omega))
  obtain ⟨c0, c1, f0, f1⟩ := WrS.cells hs
  simp only [] at c0 c1 f0 f1
  obtain ⟨i0, hi0, hz0, hz1, hz2⟩ := info_parts Try.info5
  have hvl := vi_len64 xs.length (by omega)
  have hvp := vi_pos xs.length
  have HF := Lib.hid hf
  clear hs hx hf
  generalize hvi : vi xs.length = vx at *
  generalize hxl : xs.length = m at *
  go_enter Try.func68, Try.ntmps68
  go_wp2_with (first
    | (go_at_call 94; refine HG.out.mono ?_; rintro r w1 ⟨rfl, v1, ht⟩; have HT := Lib.hid ht; have c0' := (WrS.cells ht.now).1; have f0' := (WrS.cells ht.now).2.2.1; clear ht; simp only [] at c0' f0')
    | (at_builtin; refine wpList_append_src _ rfl (.tmp 18) (.tmp 19) 38 rfl 0 5 i0 (.int .u8 0) 1 1 Try.underlying38 hi0 hz0 hz1 hz2 rfl (by decide) v1 (bs ++ vx).length ((bs ++ vx).map bv) rfl HT.out.now.2.1 _ m (xs.map bv) rfl (HF.out _ HT.out.chg) (by simp [bv, Value.oneCell']) (by simp only [maxLen, List.length_append]; omega) (by simp only [List.length_append]; omega) (Nat.zero_le _) ?_; intro v2 w2 ho1 hg1 hat1; have HA := Lib.hid (WrS.after HT.out hg1); have a0 := HA.out.1; have a1 := HA.out.2.1; have HO1 := Lib.hid ho1; have HG1 := Lib.hid hg1; have HAT := Lib.hid hat1; obtain ⟨gn, cn, hvn, _, _⟩ := row_form ho1 (by simp only [List.length_append]; omega); have HV := Lib.hid hvn; rw [hvn]; clear ho1 hg1 hat1 hvn))
  go_end0
  refine ⟨rfl, v2, ?_⟩
  have hv := HV.out
  rw [List.length_append] at hv
  rw [← hv]
  have := WrS.put HT.out v2 xs (by rw [hxl]; exact HO1.out) HG1.out HAT.out
  simpa using this
theorem Turns.made {w w1 : World} {E : TypeId} {size n c : Nat} {xs : List Value} (h : w1.ownsRow 0 E size (.slice (some ⟨w.heap.size, 0, none⟩) n c) n xs) (hg : w.grownBy w1 none) :
    Turns w w1 Own.emp (Own.row E size (.slice (some ⟨w.heap.size, 0, none⟩) n c) n xs) :=
  ⟨Chg.mono (Chg.of_grown hg) (fun _ _ h => by cases h), h, fun b hb => by
    have hb : some w.heap.size = some b := hb
    cases hb; exact Or.inr (Nat.le_refl _)⟩
theorem done_bad (s : WrS) (w : World) (hs : s.own.holds w) (hb : s.bad = true) :
    Calls Try.prog 18 #[.pointer (some ⟨s.g, 0, none⟩)] w fun r w' => r = .returned (.tuple #[.slice none 0 0, .int .i64 1]) ∧ w = w' := by
  obtain ⟨g, v, bs, bad⟩ := s
  simp only [] at hb
  subst hb
  obtain ⟨c0, c1, f0, f1⟩ := WrS.cells hs
  simp only [] at c0 c1 f0 f1
  clear hs
  go_enter Try.func18, Try.ntmps18
  go_wp2
  go_ret2
  exact ⟨rfl, rfl⟩
set_option maxHeartbeats 1000000 in
theorem done_ok (s : WrS) (w : World) (hs : s.own.holds w) (hb : s.bad = false) (hl : s.bs.length ≤ 140737488355328) :
    Calls Try.prog 18 #[.pointer (some ⟨s.g, 0, none⟩)] w fun r w' => ∃ o, r = .returned (.tuple #[o, .int .i64 0]) ∧ Turns w w' Own.emp (Own.row 5 1 o s.bs.length (s.bs.map bv)) ∧ o.ownBlock = some w.heap.size := by
  obtain ⟨g, v, bs, bad⟩ := s
  simp only [] at hb hl
  subst hb
  obtain ⟨c0, c1, f0, f1⟩ := WrS.cells hs
  simp only [] at c0 c1 f0 f1
  obtain ⟨i0, hi0, hz0, hz1, hz2⟩ := info_parts Try.info5
  have HS := Lib.hid hs
  have hvf : ∃ A c, v = .slice A bs.length c := (Src.of_own hs.2.1).len
  obtain ⟨A, c, rfl⟩ := hvf
  clear hs
  generalize hbl : bs.length = m at *
  go_enter Try.func18, Try.ntmps18
  go_wp2_with (first
    | (at_make; refine wpList_make_full _ rfl _ _ 38 rfl 0 5 i0 (.int .u8 0) 1 Try.underlying38 hi0 hz0 hz1 .i64 .i64 m m m rfl rfl rfl rfl (by rw [hz2]; omega) (by simp only [maxLen]; omega) (Nat.zero_le _) ?_; intro w1 ho1 hg1; have HO1 := Lib.hid ho1; have HG1 := Lib.hid hg1; have HS1 := Lib.hid (Own.chg HS.out (Chg.of_grown hg1) (fun _ _ h => by cases h)); have c0' := (WrS.cells HS1.out).1; simp only [] at c0'; clear ho1 hg1)
    | (refine wpList_copy_all _ rfl (.tmp 15) (.tmp 19) 38 38 rfl 5 Try.underlying38 (by rw [hi0]; simp [hz1]) _ 0 m _ rfl HO1.out _ (bs.map bv) rfl (by have := Src.of_own HS1.out.2.1; simp only [hbl] at this; exact this) (by simp [bv, Value.oneCell']) ?_; intro w2 ho2 hg2; have HO2 := Lib.hid ho2; have HG2 := Lib.hid hg2; clear ho2 hg2))
  go_ret2
  refine ⟨_, rfl, (Turns.made HO1.out HG1.out).trans (Turns.row HO2.out HG2.out (Or.inl rfl)), rfl⟩
end Go.Proofs.Ytkpgdonpmfebaaa.Bt

/- The document's writer: what each of its functions does to it. -/
namespace Go.Proofs.Ytkpgdonpmfebaaa.Bt
open Go.RowKit Go.Hp
attribute [local go_sem] min2_lean min_two max2_lean max_two
set_option linter.unusedSimpArgs false
set_option linter.unusedVariables false
set_option maxRecDepth 100000

/-- The document's writer: as the program's, of another type. -/
def WrS.xown (s : WrS) : Own := Own.both (Own.blk s.g #[s.v, .bool s.bad] 108) (Own.row 5 1 s.v s.bs.length (s.bs.map bv))
theorem WrS.xcells {s : WrS} {w : World} (h : s.xown.holds w) : w.cell? ⟨s.g, 0, none⟩ = some s.v ∧ w.cell? ⟨s.g, 1, none⟩ = some (.bool s.bad) ∧ w.frozen? ⟨s.g, 0, none⟩ = false ∧ w.frozen? ⟨s.g, 1, none⟩ = false :=
  ⟨Blk.cell h.1 0, Blk.cell h.1 1, Blk.frozen h.1 0, Blk.frozen h.1 1⟩
theorem WrS.xafter {s : WrS} {w W W1 : World} {O : Own} (h : Turns w W O s.xown) (hg : W.grownBy W1 s.v.ownBlock) : W1.cell? ⟨s.g, 0, none⟩ = some s.v ∧ W1.frozen? ⟨s.g, 0, none⟩ = false ∧ W1.cell? ⟨s.g, 1, none⟩ = some (.bool s.bad) := by
  have hb1 : Blk W1 s.g #[s.v, .bool s.bad] 108 := Blk.chg h.now.1 (Chg.of_grown hg) (fun e => h.now.2.2 s.g rfl e)
  exact ⟨hb1.cell 0, hb1.frozen 0, hb1.cell 1⟩
theorem WrS.xput {s : WrS} {w W W1 : World} {O : Own} (h : Turns w W O s.xown) (v1 : Value) (cs : List UInt8) (h1 : W1.ownsRow 0 5 1 v1 (s.bs.length + cs.length) ((s.bs.map bv) ++ cs.map bv)) (hg : W.grownBy W1 s.v.ownBlock)
    (hat : v1.ownBlock = s.v.ownBlock ∨ v1.ownBlock = some W.heap.size) : Turns w (W1.setCell ⟨s.g, 0, none⟩ v1) O ({ s with v := v1, bs := s.bs ++ cs } : WrS).xown := by
  have hgl : s.g < W.heap.size := Blk.lt h.now.1
  have hgs := hg.size
  have hb1 : Blk W1 s.g #[s.v, .bool s.bad] 108 := Blk.chg h.now.1 (Chg.of_grown hg) (fun e => h.now.2.2 s.g rfl e)
  have hne : v1.ownBlock ≠ some s.g := by
    rcases hat with e | e
    · rw [e]; exact fun hh => h.now.2.2 s.g rfl hh
    · rw [e]; intro hh; have := Option.some.inj hh; omega
  refine h.trans ⟨?_, ⟨?_, ?_, ?_⟩, ?_⟩
  · exact Chg.set (S := s.xown.foot) (Chg.mono (T := s.xown.foot) (Chg.of_grown hg) (fun k _ hk => Or.inr hk)) (p := ⟨s.g, 0, none⟩) (Or.inr (Or.inl rfl)) _
  · show Blk _ s.g #[v1, .bool s.bad] 108
    simpa using hb1.set 0 v1
  · show (W1.setCell ⟨s.g, 0, none⟩ v1).ownsRow 0 5 1 v1 (s.bs ++ cs).length ((s.bs ++ cs).map bv)
    rw [List.length_append, List.map_append]
    exact row_heap h1 fun b hb => Below.heap_setCell _ _ _ _ (fun e => hne (by rw [hb, e]))
  · exact fun b hb1 hb2 => hne (by rw [show b = s.g from hb1] at hb2; exact hb2)
  · rintro b (hb | hb)
    · exact Or.inl (Or.inl hb)
    · have hb : v1.ownBlock = some b := hb
      rcases hat with e | e
      · exact Or.inl (Or.inr (show s.v.ownBlock = some b by rw [← e]; exact hb))
      · rw [e] at hb; cases hb; exact Or.inr (Nat.le_refl _)
theorem xnewW_any (w : World) : Calls Try.prog 16 #[] w fun r w' => r = .returned (.pointer (some ⟨w.heap.size, 0, none⟩)) ∧ Turns w w' Own.emp (WrS.mk w.heap.size (.slice none 0 0) [] false).xown := by
  go_enter Try.func16, Try.ntmps16
  go_wp2
  go_ret
  refine ⟨rfl, (Chg.refl _ _).alloc _, ⟨Blk.new _ _ _, World.ownsRow_nil _ _ _ _, fun b _ h2 => by cases h2⟩, ?_⟩
  rintro b (hb | hb)
  · exact Or.inr (by have hb : b = w.heap.size := hb; omega)
  · cases hb
theorem row_step {w W W1 : World} {n : Nat} {v v1 : Value} {bs cs : List UInt8} (h : Turns w W Own.emp (Own.row 5 1 v bs.length (bs.map bv))) (h1 : W1.ownsRow 0 5 1 v1 (bs.length + cs.length) ((bs.map bv) ++ cs.map bv)) (hg : W.grownBy W1 v.ownBlock)
    (hat : v1.ownBlock = v.ownBlock ∨ v1.ownBlock = some W.heap.size) : Turns w W1 Own.emp (Own.row 5 1 v1 (bs ++ cs).length ((bs ++ cs).map bv)) := by
  refine h.trans (Turns.row ?_ hg hat)
  rw [List.length_append, List.map_append]
  exact h1
set_option maxHeartbeats 1000000 in
theorem xgroups_any (n : Nat) (w : World) (hn : n < 2 ^ 64) :
    Calls Try.prog 97 #[.int .u64 n] w fun r w' => ∃ v, r = .returned v ∧ Turns w w' Own.emp (Own.row 5 1 v (vi n).length ((vi n).map bv)) := by
  have hlen := vi_len64 n hn
  obtain ⟨i0, hi0, hz0, hz1, hz2⟩ := info_parts Try.info5
  have HN := Lib.hid hn
  clear hn
  go_enter Try.func97, Try.ntmps97
  go_wp2_with fail
  go_loopw [0, 3] (fun x x3 wr => ∃ (m : Nat) (bs : List UInt8), x = .int .u64 m ∧ m < 2 ^ 64 ∧ bs ++ vi m = vi n ∧ Turns w wr Own.emp (Own.row 5 1 x3 bs.length (bs.map bv))) (fun x _ _ => (intOf x).toNat)
  case atStart => exact ⟨n, [], rfl, HN.out, rfl, Chg.refl _ _, World.ownsRow_nil _ _ _ _, fun b hb => by cases hb⟩
  case round =>
    obtain ⟨m, bs, rfl, hm, he, ht⟩ := hrel
    have hll : bs.length + (vi m).length ≤ 10 := by
      have := congrArg List.length he
      simp only [List.length_append] at this
      omega
    have hvp := vi_pos m
    have HE := Lib.hid he
    have HT := Lib.hid ht
    clear he ht
    have hm2 : m < 18446744073709551616 := hm
    clear hm
    obtain ⟨L, hL⟩ : ∃ L, bs.length = L := ⟨_, rfl⟩
    rw [hL] at hll
    by_cases hlt : m < 128
    · have hd : decide (127 < m) = false := by simp; omega
      go_wp2_with (at_builtin; refine wpList_append_own_at _ rfl (.tmp 15) (.tmp 18) 38 rfl 0 5 i0 (.int .u8 0) 1 1 Try.underlying38 hi0 hz0 hz1 hz2 rfl (by decide) _ bs.length (bs.map bv) rfl (HT.out.alloc _).now ⟨wr.heap.size, 0, none⟩ 1 1 _ rfl rfl (cell_one_new _ _ _) (by simp [Value.oneCell']) (by simp only [maxLen]; omega) (by omega) (Nat.zero_le _) ?_; intro v1 w1 ho1 hg1 _ hat1; have HO1 := Lib.hid ho1; have HG1 := Lib.hid hg1; have HAT := Lib.hid hat1; clear ho1 hg1 hat1)
      go_ret
      have hb : bv (UInt8.ofNat m) = .int .u8 (m : Int) := by unfold bv; rw [UInt8.toNat_ofNat_of_lt' (by simp [UInt8.size]; omega)]
      have := row_step (n := 0) (HT.out.alloc (.cells #[.int .u8 (m : Int)] 5)) (cs := [UInt8.ofNat m]) (by rw [List.map_cons, List.map_nil, hb]; exact HO1.out) HG1.out HAT.out
      rw [vi_lt hlt] at HE
      rw [HE.out] at this
      exact ⟨_, rfl, this⟩
    · have hd : decide (127 < m) = true := by simp; omega
      go_wp2_with (at_builtin; refine wpList_append_own_at _ rfl (.tmp 6) (.tmp 11) 38 rfl 0 5 i0 (.int .u8 0) 1 1 Try.underlying38 hi0 hz0 hz1 hz2 rfl (by decide) _ bs.length (bs.map bv) rfl (HT.out.alloc _).now ⟨wr.heap.size, 0, none⟩ 1 1 _ rfl rfl (cell_one_new _ _ _) (by simp [Value.oneCell']) (by simp only [maxLen]; omega) (by omega) (Nat.zero_le _) ?_; intro v1 w1 ho1 hg1 _ hat1; have HO1 := Lib.hid ho1; have HG1 := Lib.hid hg1; have HAT := Lib.hid hat1; clear ho1 hg1 hat1)
      have hb : bv (UInt8.ofNat (m % 128 + 128)) = .int .u8 ((m : Int) % 128 + 128) := by unfold bv; rw [UInt8.toNat_ofNat_of_lt' (by simp [UInt8.size]; omega)]; simp
      have HP := Lib.hid (row_step (n := 0) (HT.out.alloc (.cells #[.int .u8 ((m : Int) % 128 + 128)] 5)) (cs := [UInt8.ofNat (m % 128 + 128)]) (by rw [List.map_cons, List.map_nil, hb]; exact HO1.out) HG1.out HAT.out)
      rw [vi_ge hlt] at HE
      have HE2 := Lib.hid (show (bs ++ [UInt8.ofNat (m % 128 + 128)]) ++ vi (m / 128) = vi n by rw [← HE.out]; simp)
      go_roundw
      case rel => exact ⟨m / 128, _, by simp, by omega, HE2.out, HP.out⟩
      case measure => simp [intOf]; omega
set_option maxHeartbeats 1000000 in
theorem put_ok (s : WrS) (x : Value) (xs : List UInt8) (w : World) (hs : s.xown.holds w) (hx : Src w x xs.length 1 (xs.map bv)) (hb : s.bad = false) (hp : 1 ≤ s.bs.length + xs.length) (hl : s.bs.length + xs.length ≤ 140737488355328) :
    Calls Try.prog 96 #[.pointer (some ⟨s.g, 0, none⟩), x] w fun r w' => r = .returned (.tuple #[]) ∧ ∃ v', Turns w w' s.xown ({ s with v := v', bs := s.bs ++ xs } : WrS).xown := by
  obtain ⟨g, v, bs, bad⟩ := s
  simp only [] at hb hl hp
  subst hb
  obtain ⟨c0, c1, f0, f1⟩ := WrS.xcells hs
  simp only [] at c0 c1 f0 f1
  obtain ⟨i0, hi0, hz0, hz1, hz2⟩ := info_parts Try.info5
  have HS := Lib.hid (Turns.refl hs)
  have HX := Lib.hid hx
  obtain ⟨A, c, rfl⟩ := hx.len
  clear hs hx
  go_enter Try.func96, Try.ntmps96
  go_wp2_with (at_builtin; refine wpList_append_src _ rfl (.tmp 13) (.tmp 14) 38 rfl 0 5 i0 (.int .u8 0) 1 1 Try.underlying38 hi0 hz0 hz1 hz2 rfl (by decide) v bs.length (bs.map bv) rfl HS.out.now.2.1 _ xs.length (xs.map bv) rfl HX.out (by simp [bv, Value.oneCell']) (by simp only [maxLen]; omega) (by omega) (Nat.zero_le _) ?_; intro v2 w2 ho1 hg1 hat1; have HA := Lib.hid (WrS.xafter HS.out hg1); have a0 := HA.out.1; have a1 := HA.out.2.1; have HO1 := Lib.hid ho1; have HG1 := Lib.hid hg1; have HAT := Lib.hid hat1; obtain ⟨gn, cn, hvn, _, _⟩ := row_form ho1 (by omega); have HV := Lib.hid hvn; rw [hvn]; clear ho1 hg1 hat1 hvn)
  go_end0
  refine ⟨rfl, v2, ?_⟩
  rw [← HV.out]
  exact WrS.xput HS.out v2 xs HO1.out HG1.out HAT.out
theorem put_bad (s : WrS) (A : Option Addr) (n c : Nat) (w : World) (hs : s.xown.holds w) (hb : s.bad = true) :
    Calls Try.prog 96 #[.pointer (some ⟨s.g, 0, none⟩), .slice A n c] w fun r w' => r = .returned (.tuple #[]) ∧ w = w' := by
  obtain ⟨g, v, bs, bad⟩ := s
  simp only [] at hb
  subst hb
  obtain ⟨c0, c1, f0, f1⟩ := WrS.xcells hs
  simp only [] at c0 c1 f0 f1
  clear hs
  go_enter Try.func96, Try.ntmps96
  go_wp2
  go_end0
  exact ⟨rfl, rfl⟩
theorem Turns.addr {w w' : World} {O A : Own} (h : O.holds w) (t : Turns w w' Own.emp A) : Turns w w' O O := ⟨t.chg.mono fun _ _ hf => hf.elim, Own.chg h t.chg (fun _ _ hf => hf), fun _ hb => Or.inl hb⟩
theorem xnum_neg (s : WrS) (n : Int) (w : World) (hs : s.xown.holds w) (hn : n < 0) :
    Calls Try.prog 63 #[.pointer (some ⟨s.g, 0, none⟩), .int .i64 n] w fun r w' => r = .returned (.tuple #[]) ∧ Turns w w' s.xown ({ s with bad := true } : WrS).xown := by
  obtain ⟨g, v, bs, bad⟩ := s
  obtain ⟨c0, c1, f0, f1⟩ := WrS.xcells hs
  simp only [] at c0 c1 f0 f1
  have hd : decide (n < 0) = true := by simpa using hn
  have HS := Lib.hid hs
  clear hs
  go_enter Try.func63, Try.ntmps63
  go_wp2
  refine bodyPost_ret (results_none rfl _ _ _) rfl ?_
  have hne : ∀ b, b = g → v.ownBlock = some b → False := fun b h1 h2 => HS.out.2.2 b h1 h2
  refine ⟨rfl, Chg.set (Chg.refl _ _) (p := ⟨g, 1, none⟩) (Or.inr (Or.inl rfl)) _, ⟨?_, ?_, HS.out.2.2⟩, fun b hb => Or.inl hb⟩
  · show Blk _ g #[v, .bool true] 108
    simpa using Blk.set HS.out.1 1 (.bool true)
  · exact row_heap HS.out.2.1 fun b hb => Below.heap_setCell _ _ _ _ (fun e => hne b e hb)
/-- Behind 'put' of groups. -/
theorem xnum_ok (s : WrS) (n : Nat) (w : World) (hs : s.xown.holds w) (hn : n < 2 ^ 63) (hb : s.bad = false) (hl : s.bs.length + 10 ≤ 140737488355328) :
    Calls Try.prog 63 #[.pointer (some ⟨s.g, 0, none⟩), .int .i64 n] w fun r w' => r = .returned (.tuple #[]) ∧ ∃ v', Turns w w' s.xown ({ s with v := v', bs := s.bs ++ vi n } : WrS).xown := by
  have HG := Lib.hid (xgroups_any n w (by omega))
  have hd : decide ((n : Int) < 0) = false := by simp
  have hn2 : n < 9223372036854775808 := hn
  have hvl := vi_len64 n (by omega)
  have hvp := vi_pos n
  have HS := Lib.hid hs
  clear hs hn
  go_enter Try.func63, Try.ntmps63
  go_wp2_with (first
    | (go_at_call 97; refine HG.out.mono ?_; rintro r w1 ⟨v1, rfl, ht⟩; have HT := Lib.hid ht; obtain ⟨A, c, rfl⟩ := (Src.of_own ht.now).len; clear ht)
    | (go_at_call 96; refine (put_ok s _ (vi n) _ (Turns.addr HS.out HT.out).now (Src.of_own HT.out.now) hb (by omega) (by omega)).mono ?_; rintro r w2 ⟨rfl, v2, ht2⟩; have HT2 := Lib.hid ht2; clear ht2))
  go_end0
  exact ⟨rfl, v2, (Turns.addr HS.out HT.out).trans HT2.out⟩
theorem xnum_bad (s : WrS) (n : Nat) (w : World) (hs : s.xown.holds w) (hn : n < 2 ^ 63) (hb : s.bad = true) :
    Calls Try.prog 63 #[.pointer (some ⟨s.g, 0, none⟩), .int .i64 n] w fun r w' => r = .returned (.tuple #[]) ∧ Turns w w' s.xown s.xown := by
  have HG := Lib.hid (xgroups_any n w (by omega))
  have hd : decide ((n : Int) < 0) = false := by simp
  have hn2 : n < 9223372036854775808 := hn
  have HS := Lib.hid hs
  clear hs hn
  go_enter Try.func63, Try.ntmps63
  go_wp2_with (first
    | (go_at_call 97; refine HG.out.mono ?_; rintro r w1 ⟨v1, rfl, ht⟩; have HT := Lib.hid ht; obtain ⟨A, c, rfl⟩ := (Src.of_own ht.now).len; clear ht)
    | (go_at_call 96; refine (put_bad s _ _ _ _ (Turns.addr HS.out HT.out).now hb).mono ?_; rintro r w2 ⟨rfl, rfl⟩))
  go_end0
  exact ⟨rfl, Turns.addr HS.out HT.out⟩
end Go.Proofs.Ytkpgdonpmfebaaa.Bt

/- The document's writer: Signed, Bool, Text, Bytes, Done. -/
namespace Go.Proofs.Ytkpgdonpmfebaaa.Bt
open Go.RowKit Go.Hp
attribute [local go_sem] min2_lean min_two max2_lean max_two
set_option linter.unusedSimpArgs false
set_option linter.unusedVariables false
set_option maxRecDepth 100000

theorem xsigned_ok (s : WrS) (n : Int) (w : World) (hs : s.xown.holds w) (hn0 : -9223372036854775808 ≤ n) (hn1 : n ≤ 9223372036854775807) (hb : s.bad = false) (hl : s.bs.length + 10 ≤ 140737488355328) :
    Calls Try.prog 64 #[.pointer (some ⟨s.g, 0, none⟩), .int .i64 n] w fun r w' => r = .returned (.tuple #[]) ∧ ∃ v', Turns w w' s.xown ({ s with v := v', bs := s.bs ++ vi (zz n) } : WrS).xown := by
  have HG := Lib.hid (xgroups_any (zz n) w (zz_lt n hn0 hn1))
  have hvl := vi_len64 (zz n) (zz_lt n hn0 hn1)
  have hvp := vi_pos (zz n)
  have HS := Lib.hid hs
  clear hs
  by_cases h : n < 0
  · have hd : decide (n < 0) = true := by simpa using h
    have HZ := Lib.hid (show -(n + 1) * 2 + 1 = ((zz n : Nat) : Int) by unfold zz; rw [if_pos h]; omega)
    go_enter Try.func64, Try.ntmps64
    go_wp2_with (first
      | (go_at_call 97; rw [HZ.out]; refine HG.out.mono ?_; rintro r w1 ⟨v1, rfl, ht⟩; have HT := Lib.hid ht; obtain ⟨A, c, rfl⟩ := (Src.of_own ht.now).len; clear ht)
      | (go_at_call 96; refine (put_ok s _ (vi (zz n)) _ (Turns.addr HS.out HT.out).now (Src.of_own HT.out.now) hb (by omega) (by omega)).mono ?_; rintro r w2 ⟨rfl, v2, ht2⟩))
    go_end0
    exact ⟨rfl, v2, (Turns.addr HS.out HT.out).trans ht2⟩
  · have hd : decide (n < 0) = false := by simpa using h
    have HZ := Lib.hid (show n * 2 = ((zz n : Nat) : Int) by unfold zz; rw [if_neg h]; omega)
    go_enter Try.func64, Try.ntmps64
    go_wp2_with (first
      | (go_at_call 97; rw [HZ.out]; refine HG.out.mono ?_; rintro r w1 ⟨v1, rfl, ht⟩; have HT := Lib.hid ht; obtain ⟨A, c, rfl⟩ := (Src.of_own ht.now).len; clear ht)
      | (go_at_call 96; refine (put_ok s _ (vi (zz n)) _ (Turns.addr HS.out HT.out).now (Src.of_own HT.out.now) hb (by omega) (by omega)).mono ?_; rintro r w2 ⟨rfl, v2, ht2⟩))
    go_end0
    exact ⟨rfl, v2, (Turns.addr HS.out HT.out).trans ht2⟩
theorem xsigned_bad (s : WrS) (n : Int) (w : World) (hs : s.xown.holds w) (hn0 : -9223372036854775808 ≤ n) (hn1 : n ≤ 9223372036854775807) (hb : s.bad = true) :
    Calls Try.prog 64 #[.pointer (some ⟨s.g, 0, none⟩), .int .i64 n] w fun r w' => r = .returned (.tuple #[]) ∧ Turns w w' s.xown s.xown := by
  have HG := Lib.hid (xgroups_any (zz n) w (zz_lt n hn0 hn1))
  have HS := Lib.hid hs
  clear hs
  by_cases h : n < 0
  · have hd : decide (n < 0) = true := by simpa using h
    have HZ := Lib.hid (show -(n + 1) * 2 + 1 = ((zz n : Nat) : Int) by unfold zz; rw [if_pos h]; omega)
    go_enter Try.func64, Try.ntmps64
    go_wp2_with (first
      | (go_at_call 97; rw [HZ.out]; refine HG.out.mono ?_; rintro r w1 ⟨v1, rfl, ht⟩; have HT := Lib.hid ht; obtain ⟨A, c, rfl⟩ := (Src.of_own ht.now).len; clear ht)
      | (go_at_call 96; refine (put_bad s _ _ _ _ (Turns.addr HS.out HT.out).now hb).mono ?_; rintro r w2 ⟨rfl, rfl⟩))
    go_end0
    exact ⟨rfl, Turns.addr HS.out HT.out⟩
  · have hd : decide (n < 0) = false := by simpa using h
    have HZ := Lib.hid (show n * 2 = ((zz n : Nat) : Int) by unfold zz; rw [if_neg h]; omega)
    go_enter Try.func64, Try.ntmps64
    go_wp2_with (first
      | (go_at_call 97; rw [HZ.out]; refine HG.out.mono ?_; rintro r w1 ⟨v1, rfl, ht⟩; have HT := Lib.hid ht; obtain ⟨A, c, rfl⟩ := (Src.of_own ht.now).len; clear ht)
      | (go_at_call 96; refine (put_bad s _ _ _ _ (Turns.addr HS.out HT.out).now hb).mono ?_; rintro r w2 ⟨rfl, rfl⟩))
    go_end0
    exact ⟨rfl, Turns.addr HS.out HT.out⟩
theorem bytesWorld_chg (w : World) (e : TypeId) (s : ByteArray) : Chg (fun _ => False) w (Lib.bytesWorld w e s) :=
  ⟨rfl, rfl, rfl, by rw [Lib.bytesWorld_size]; omega, fun k hk _ => Lib.bytesWorld_at_old w e s k hk⟩
theorem bytesWorld_src (w : World) (e : TypeId) (s : ByteArray) (c : Nat) : Src (Lib.bytesWorld w e s) (.slice (some ⟨w.heap.size, 0, none⟩) s.size c) s.data.toList.length 1 (s.data.toList.map bv) := by
  have hsz : s.data.toList.length = s.size := by rw [Array.length_toList]; rfl
  refine ⟨by simp, Or.inr ⟨_, c, by rw [hsz], fun j u hu => ?_⟩⟩
  have hj : j < s.size := by
    have := (List.getElem?_eq_some_iff.1 hu).1
    simpa [hsz] using this
  have ha : (⟨w.heap.size, 0, none⟩ : Addr).add j = ⟨w.heap.size, j, none⟩ := by unfold Addr.add; split <;> simp_all
  rw [ha, Lib.bytesWorld_cell w e s j hj]
  rw [List.getElem?_map] at hu
  rw [List.getD_eq_getElem?_getD]
  cases h : s.data.toList[j]? with
  | none => rw [h] at hu; simp at hu
  | some b => rw [h] at hu; simp [bv] at hu ⊢; exact hu
theorem Turns.keep {w w' : World} {O : Own} (h : O.holds w) (hc : Chg (fun _ => False) w w') : Turns w w' O O := ⟨hc.mono fun _ _ hf => hf.elim, Own.chg h hc (fun _ _ hf => hf), fun _ hb => Or.inl hb⟩
theorem xtext_ok (s : WrS) (x : ByteArray) (w : World) (hs : s.xown.holds w) (hb : s.bad = false) (hl : s.bs.length + x.size + 10 ≤ 140737488355328) :
    Calls Try.prog 67 #[.pointer (some ⟨s.g, 0, none⟩), .string x] w fun r w' => r = .returned (.tuple #[]) ∧ ∃ v', Turns w w' s.xown ({ s with v := v', bs := s.bs ++ vi x.size ++ x.data.toList } : WrS).xown := by
  have HG := Lib.hid (xnum_ok s x.size w hs (by omega) hb (by omega))
  clear hs
  go_enter Try.func67, Try.ntmps67
  have hsz : x.data.toList.length = x.size := by rw [Array.length_toList]; rfl
  have hvp := vi_pos x.size
  have hvl := vi_len64 x.size (by omega)
  go_wp2_with (first
    | (go_at_call 63; refine HG.out.mono ?_; rintro r w1 ⟨rfl, v1, ht⟩; have HT := Lib.hid ht; have hcv := Lib.run_convert_string_bytes (P := Try.prog) w1 9 38 5 x Try.underlying9 Try.underlying38 Try.underlying5; clear ht)
    | (go_at_call 96; refine (put_ok (WrS.mk s.g v1 (s.bs ++ vi x.size) s.bad) _ x.data.toList _ (Turns.keep HT.out.now (bytesWorld_chg w1 5 x)).now (bytesWorld_src w1 5 x _) hb (by simp only [List.length_append]; omega) (by simp only [List.length_append]; omega)).mono ?_; rintro r w2 ⟨rfl, v2, ht2⟩))
  go_end0
  exact ⟨rfl, v2, (HT.out.trans (Turns.keep HT.out.now (bytesWorld_chg w1 5 x))).trans ht2⟩
theorem xtext_bad (s : WrS) (x : ByteArray) (w : World) (hs : s.xown.holds w) (hb : s.bad = true) (hl : x.size + 10 ≤ 140737488355328) :
    Calls Try.prog 67 #[.pointer (some ⟨s.g, 0, none⟩), .string x] w fun r w' => r = .returned (.tuple #[]) ∧ Turns w w' s.xown s.xown := by
  have HG := Lib.hid (xnum_bad s x.size w hs (by omega) hb)
  clear hs
  go_enter Try.func67, Try.ntmps67
  go_wp2_with (first
    | (go_at_call 63; refine HG.out.mono ?_; rintro r w1 ⟨rfl, ht⟩; have HT := Lib.hid ht; have hcv := Lib.run_convert_string_bytes (P := Try.prog) w1 9 38 5 x Try.underlying9 Try.underlying38 Try.underlying5; clear ht)
    | (go_at_call 96; refine (put_bad s _ _ _ _ (Turns.keep HT.out.now (bytesWorld_chg w1 5 x)).now hb).mono ?_; rintro r w2 ⟨rfl, rfl⟩))
  go_end0
  exact ⟨rfl, HT.out.trans (Turns.keep HT.out.now (bytesWorld_chg w1 5 x))⟩
end Go.Proofs.Ytkpgdonpmfebaaa.Bt

/- The document's writer: Bool, Bytes, Done. -/
namespace Go.Proofs.Ytkpgdonpmfebaaa.Bt
open Go.RowKit Go.Hp
attribute [local go_sem] min2_lean min_two max2_lean max_two
set_option linter.unusedSimpArgs false
set_option linter.unusedVariables false
set_option maxRecDepth 100000

theorem src_of_blk {w : World} {b : Nat} {cs : Array Value} {T : TypeId} (h : Blk w b cs T) (c : Nat) : Src w (.slice (some ⟨b, 0, none⟩) cs.size c) cs.size 1 cs.toList :=
  ⟨by simp, Or.inr ⟨_, c, rfl, fun j u hu => World.news_of_block h j u hu⟩⟩
theorem xbool_bad (s : WrS) (x : Bool) (w : World) (hs : s.xown.holds w) (hb : s.bad = true) :
    Calls Try.prog 66 #[.pointer (some ⟨s.g, 0, none⟩), .bool x] w fun r w' => r = .returned (.tuple #[]) ∧ Turns w w' s.xown s.xown := by
  have HS := Lib.hid hs
  clear hs
  have hb0 : Blk (w.alloc (.cells #[.int .u8 0] 5)) w.heap.size #[.int .u8 0] 5 := Blk.new _ _ _
  have hb1 : Blk (w.alloc (.cells #[.int .u8 1] 5)) w.heap.size #[.int .u8 1] 5 := Blk.new _ _ _
  have HC0 : Hid (Chg (fun _ => False) w (w.alloc (.cells #[.int .u8 0] 5))) := (Chg.refl _ _).alloc _
  have HC1 : Hid (Chg (fun _ => False) w (w.alloc (.cells #[.int .u8 1] 5))) := (Chg.refl _ _).alloc _
  have HB0 := Lib.hid (src_of_blk hb0 1)
  have HB1 := Lib.hid (src_of_blk hb1 1)
  clear hb0 hb1
  cases x
  · go_enter Try.func66, Try.ntmps66
    go_wp2_with (go_at_call 96; refine (put_bad s _ _ _ _ (Turns.keep HS.out HC0.out).now hb).mono ?_; rintro r w2 ⟨rfl, rfl⟩)
    go_end0
    exact ⟨rfl, Turns.keep HS.out HC0.out⟩
  · go_enter Try.func66, Try.ntmps66
    go_wp2_with (go_at_call 96; refine (put_bad s _ _ _ _ (Turns.keep HS.out HC1.out).now hb).mono ?_; rintro r w2 ⟨rfl, rfl⟩)
    go_end0
    exact ⟨rfl, Turns.keep HS.out HC1.out⟩
theorem xbool_ok (s : WrS) (x : Bool) (w : World) (hs : s.xown.holds w) (hb : s.bad = false) (hl : s.bs.length + 10 ≤ 140737488355328) :
    Calls Try.prog 66 #[.pointer (some ⟨s.g, 0, none⟩), .bool x] w fun r w' => r = .returned (.tuple #[]) ∧ ∃ v', Turns w w' s.xown ({ s with v := v', bs := s.bs ++ [if x then 1 else 0] } : WrS).xown := by
  have HS := Lib.hid hs
  clear hs
  have hb0 : Blk (w.alloc (.cells #[.int .u8 0] 5)) w.heap.size #[.int .u8 0] 5 := Blk.new _ _ _
  have hb1 : Blk (w.alloc (.cells #[.int .u8 1] 5)) w.heap.size #[.int .u8 1] 5 := Blk.new _ _ _
  have HC0 : Hid (Chg (fun _ => False) w (w.alloc (.cells #[.int .u8 0] 5))) := (Chg.refl _ _).alloc _
  have HC1 : Hid (Chg (fun _ => False) w (w.alloc (.cells #[.int .u8 1] 5))) := (Chg.refl _ _).alloc _
  have HB0 := Lib.hid (src_of_blk hb0 1)
  have HB1 := Lib.hid (src_of_blk hb1 1)
  clear hb0 hb1
  cases x
  · go_enter Try.func66, Try.ntmps66
    go_wp2_with (go_at_call 96; refine (put_ok s _ [0] _ (Turns.keep HS.out HC0.out).now (by exact HB0.out) hb (by simp) (by simp; omega)).mono ?_; rintro r w2 ⟨rfl, v2, ht2⟩; have HT2 := Lib.hid ht2; clear ht2)
    go_end0
    have h2 := HT2.out
    simp only [hb] at h2
    exact ⟨rfl, v2, (Turns.keep HS.out HC0.out).trans h2⟩
  · go_enter Try.func66, Try.ntmps66
    go_wp2_with (go_at_call 96; refine (put_ok s _ [1] _ (Turns.keep HS.out HC1.out).now (by exact HB1.out) hb (by simp) (by simp; omega)).mono ?_; rintro r w2 ⟨rfl, v2, ht2⟩; have HT2 := Lib.hid ht2; clear ht2)
    go_end0
    have h2 := HT2.out
    simp only [hb] at h2
    exact ⟨rfl, v2, (Turns.keep HS.out HC1.out).trans h2⟩
theorem xbytes_ok (s : WrS) (A : Option Addr) (m c : Nat) (xs : List UInt8) (w : World) (hs : s.xown.holds w) (hx : Src w (.slice A m c) m 1 (xs.map bv)) (hf : ∀ w', Chg s.xown.foot w w' → Src w' (.slice A m c) m 1 (xs.map bv))
    (hb : s.bad = false) (hl : s.bs.length + xs.length + 10 ≤ 140737488355328) :
    Calls Try.prog 69 #[.pointer (some ⟨s.g, 0, none⟩), .slice A m c] w fun r w' => r = .returned (.tuple #[]) ∧ ∃ v', Turns w w' s.xown ({ s with v := v', bs := s.bs ++ vi xs.length ++ xs } : WrS).xown := by
  obtain rfl : m = xs.length := by have := hx.1; simpa using this.symm
  have HG := Lib.hid (xnum_ok s xs.length w hs (by omega) hb (by omega))
  have HF := Lib.hid hf
  have hvp := vi_pos xs.length
  have hvl := vi_len64 xs.length (by omega)
  clear hs hx hf
  obtain ⟨m, hm⟩ : ∃ m, xs.length = m := ⟨_, rfl⟩
  rw [hm] at HG HF hvp hvl hl ⊢
  go_enter Try.func69, Try.ntmps69
  go_wp2_with (first
    | (go_at_call 63; refine HG.out.mono ?_; rintro r w1 ⟨rfl, v1, ht⟩; have HT := Lib.hid ht; clear ht)
    | (go_at_call 96; refine (put_ok (WrS.mk s.g v1 (s.bs ++ vi m) s.bad) _ xs _ HT.out.now (by rw [hm]; exact HF.out _ HT.out.chg) hb (by simp only [List.length_append]; omega) (by simp only [List.length_append]; omega)).mono ?_; rintro r w2 ⟨rfl, v2, ht2⟩))
  go_end0
  exact ⟨rfl, v2, HT.out.trans ht2⟩
theorem xbytes_bad (s : WrS) (A : Option Addr) (m c : Nat) (w : World) (hs : s.xown.holds w) (hb : s.bad = true) (hl : m ≤ 140737488355328) :
    Calls Try.prog 69 #[.pointer (some ⟨s.g, 0, none⟩), .slice A m c] w fun r w' => r = .returned (.tuple #[]) ∧ Turns w w' s.xown s.xown := by
  have HG := Lib.hid (xnum_bad s m w hs (by omega) hb)
  clear hs
  go_enter Try.func69, Try.ntmps69
  go_wp2_with (first
    | (go_at_call 63; refine HG.out.mono ?_; rintro r w1 ⟨rfl, ht⟩; have HT := Lib.hid ht; clear ht)
    | (go_at_call 96; refine (put_bad s _ _ _ _ HT.out.now hb).mono ?_; rintro r w2 ⟨rfl, rfl⟩))
  go_end0
  exact ⟨rfl, HT.out⟩
theorem xdone_bad (s : WrS) (w : World) (hs : s.xown.holds w) (hb : s.bad = true) :
    Calls Try.prog 19 #[.pointer (some ⟨s.g, 0, none⟩)] w fun r w' => r = .returned (.tuple #[.slice none 0 0, .int .i64 1]) ∧ w = w' := by
  obtain ⟨g, v, bs, bad⟩ := s
  simp only [] at hb
  subst hb
  obtain ⟨c0, c1, f0, f1⟩ := WrS.xcells hs
  simp only [] at c0 c1 f0 f1
  clear hs
  go_enter Try.func19, Try.ntmps19
  go_wp2
  go_ret2
  exact ⟨rfl, rfl⟩
theorem xdone_ok (s : WrS) (w : World) (hs : s.xown.holds w) (hb : s.bad = false) (hl : s.bs.length ≤ 140737488355328) :
    Calls Try.prog 19 #[.pointer (some ⟨s.g, 0, none⟩)] w fun r w' => ∃ o, r = .returned (.tuple #[o, .int .i64 0]) ∧ Turns w w' Own.emp (Own.row 5 1 o s.bs.length (s.bs.map bv)) := by
  obtain ⟨g, v, bs, bad⟩ := s
  simp only [] at hb hl
  subst hb
  obtain ⟨c0, c1, f0, f1⟩ := WrS.xcells hs
  simp only [] at c0 c1 f0 f1
  obtain ⟨i0, hi0, hz0, hz1, hz2⟩ := info_parts Try.info5
  have HX : Hid (Src (w.alloc (.cells #[] 5)) v bs.length 1 (bs.map bv)) := Src.of_own (Own.chg hs ((Chg.refl (fun _ => False) w).alloc (.cells #[] 5)) (fun _ _ h => h)).2.1
  have HL := Lib.hid (Turns.row_lit w Own.emp #[] 5 1 0 (by simp [maxLen]) rfl)
  have hc0 : (w.alloc (.cells #[] 5)).cell? ⟨g, 0, none⟩ = some v := (World.cell?_alloc_lt _ _ _ (show g < w.heap.size from Blk.lt hs.1)).trans c0
  clear hs
  go_enter Try.func19, Try.ntmps19
  go_wp2_with (at_builtin; refine wpList_append_src _ rfl (.tmp 8) (.tmp 12) 38 rfl 0 5 i0 (.int .u8 0) 1 1 Try.underlying38 hi0 hz0 hz1 hz2 rfl (by decide) _ 0 [] rfl HL.out.now _ bs.length (bs.map bv) rfl HX.out (by simp [bv, Value.oneCell']) (by simp only [maxLen]; omega) (by omega) (Nat.zero_le _) ?_; intro v2 w2 ho1 hg1 hat1; have HO1 := Lib.hid ho1; have HG1 := Lib.hid hg1; have HAT := Lib.hid hat1; clear ho1 hg1 hat1)
  go_ret2
  refine ⟨_, rfl, HL.out.trans (Turns.row ?_ HG1.out HAT.out)⟩
  have := HO1.out
  simpa using this
end Go.Proofs.Ytkpgdonpmfebaaa.Bt

/- A reader of the program and an item that is being read. Plain. -/
namespace Go.Proofs.Ytkpgdonpmfebaaa.Bt
open Go.RowKit Go.Hp
set_option linter.unusedSimpArgs false
set_option linter.unusedVariables false

theorem Turns.bothl {w w' : World} {g : Nat} {cs cs' : Array Value} {T : TypeId} {O : Own} (h : (Own.both (Own.blk g cs T) O).holds w) (hs : SetBlk w w' g cs' T) :
    Turns w w' (Own.both (Own.blk g cs T) O) (Own.both (Own.blk g cs' T) O) :=
  ⟨hs.chg.mono fun b _ hb => Or.inl hb, ⟨hs.blk, Own.chg h.2.1 hs.chg (fun b hb e => h.2.2 b e hb), h.2.2⟩, fun b hb => Or.inl hb⟩

/-- A reader: its block, its bytes, the place, what is amiss. -/
structure RdS where
  g : Nat
  v : Value
  bs : List UInt8
  at_ : Nat
  e : Int
def RdS.own (s : RdS) : Own := Own.both (Own.blk s.g #[s.v, .int .i64 s.at_, .int .i64 s.e] 111) (Own.row 5 1 s.v s.bs.length (s.bs.map bv))
theorem RdS.cells {s : RdS} {w : World} (h : s.own.holds w) : w.cell? ⟨s.g, 0, none⟩ = some s.v ∧ w.cell? ⟨s.g, 1, none⟩ = some (.int .i64 s.at_) ∧ w.cell? ⟨s.g, 2, none⟩ = some (.int .i64 s.e) ∧
    w.frozen? ⟨s.g, 1, none⟩ = false ∧ w.frozen? ⟨s.g, 2, none⟩ = false :=
  ⟨Blk.cell h.1 0, Blk.cell h.1 1, Blk.cell h.1 2, Blk.frozen h.1 1, Blk.frozen h.1 2⟩
theorem RdS.form {s : RdS} {w : World} (h : s.own.holds w) : ∃ A c, s.v = .slice A s.bs.length c := by
  rcases h.2.1.2 with ⟨hv, h0⟩ | ⟨g, cap, cur, hv, _⟩
  · exact ⟨none, 0, by rw [hv, h0]⟩
  · exact ⟨_, _, hv⟩
theorem RdS.byte {s : RdS} {w : World} (h : s.own.holds w) (k : Nat) (hk : k < s.bs.length) : ∃ gv c, s.v = .slice (some ⟨gv, 0, none⟩) s.bs.length c ∧ w.cell? ⟨gv, k, none⟩ = some (bv s.bs[k]) ∧ s.bs.length ≤ c := by
  obtain ⟨gv, c, hv, _, hc⟩ := row_form h.2.1 (by omega)
  refine ⟨gv, c, hv, ?_, hc⟩
  have := World.ownsRow.cells (g := gv) h.2.1 (by rw [hv]; rfl) k (bv s.bs[k]) (by simp [hk])
  have ha : (⟨gv, 0, none⟩ : Addr).add k = ⟨gv, k, none⟩ := by unfold Addr.add; split <;> simp_all
  rwa [ha] at this
/-- An item: its block, the place, what is amiss; and its reader. -/
structure ItS where
  x : Nat
  r : RdS
  at_ : Nat
  e : Int
def ItS.own (s : ItS) : Own := Own.both (Own.blk s.x #[.pointer (some ⟨s.r.g, 0, none⟩), .int .i64 s.at_, .int .i64 s.e] 143) s.r.own
theorem ItS.cells {s : ItS} {w : World} (h : s.own.holds w) : w.cell? ⟨s.x, 0, none⟩ = some (.pointer (some ⟨s.r.g, 0, none⟩)) ∧ w.cell? ⟨s.x, 1, none⟩ = some (.int .i64 s.at_) ∧ w.cell? ⟨s.x, 2, none⟩ = some (.int .i64 s.e) ∧
    w.frozen? ⟨s.x, 1, none⟩ = false ∧ w.frozen? ⟨s.x, 2, none⟩ = false :=
  ⟨Blk.cell h.1 0, Blk.cell h.1 1, Blk.cell h.1 2, Blk.frozen h.1 1, Blk.frozen h.1 2⟩
theorem ItS.setAt {s : ItS} {w : World} (h : s.own.holds w) (k : Nat) (u : Int) (hu : u = k) : Turns w (w.setCell ⟨s.x, 1, none⟩ (.int .i64 u)) s.own ({ s with at_ := k } : ItS).own := by
  subst hu
  have := Turns.bothl h (SetBlk.of_set h.1 1 (.int .i64 k))
  exact this
theorem ItS.setE {s : ItS} {w : World} (h : s.own.holds w) (u : Int) : Turns w (w.setCell ⟨s.x, 2, none⟩ (.int .i64 u)) s.own ({ s with e := u } : ItS).own := by
  have := Turns.bothl h (SetBlk.of_set h.1 2 (.int .i64 u))
  exact this
end Go.Proofs.Ytkpgdonpmfebaaa.Bt

/- The reader of package bits: an item's bytes. -/
namespace Go.Proofs.Ytkpgdonpmfebaaa.Bt
open Go.RowKit Go.Hp
attribute [local go_sem] min2_lean min_two max2_lean max_two
set_option linter.unusedSimpArgs false
set_option linter.unusedVariables false
set_option maxRecDepth 100000

theorem fail_new (x : Nat) (c : Int) (w : World) (h : w.cell? ⟨x, 2, none⟩ = some (.int .i64 0)) (hf : w.frozen? ⟨x, 2, none⟩ = false) :
    Calls Try.prog 99 #[.pointer (some ⟨x, 0, none⟩), .int .i64 c] w fun r w' => r = .returned (.tuple #[]) ∧ w' = w.setCell ⟨x, 2, none⟩ (.int .i64 c) := by
  go_enter Try.func99, Try.ntmps99
  go_wp2
  go_end0
  exact ⟨rfl, rfl⟩
theorem one_err (s : ItS) (w : World) (hs : s.own.holds w) (he : (s.e == 0) = false) :
    Calls Try.prog 98 #[.pointer (some ⟨s.x, 0, none⟩)] w fun r w' => r = .returned (.int .u8 0) ∧ w = w' := by
  obtain ⟨c0, c1, c2, f1, f2⟩ := ItS.cells hs
  have hd : (s.e != 0) = true := by simpa using he
  clear hs
  go_enter Try.func98, Try.ntmps98
  go_wp2
  go_ret
  exact ⟨rfl, rfl⟩
theorem one_short (s : ItS) (w : World) (hs : s.own.holds w) (he : s.e = 0) (ha : s.at_ = s.r.bs.length) (hl : s.r.bs.length < 4611686018427387904) :
    Calls Try.prog 98 #[.pointer (some ⟨s.x, 0, none⟩)] w fun r w' => r = .returned (.int .u8 0) ∧ Turns w w' s.own ({ s with e := 10 } : ItS).own := by
  obtain ⟨c0, c1, c2, f1, f2⟩ := ItS.cells hs
  obtain ⟨d0, d1, d2, _, _⟩ := RdS.cells hs.2.1
  obtain ⟨A, c, hv⟩ := RdS.form hs.2.1
  rw [hv] at d0
  rw [he] at c2
  have hd : (((s.at_ : Nat) : Int) == ((s.r.bs.length : Nat) : Int)) = true := by simp [ha]
  have HS := Lib.hid hs
  clear hs
  go_enter Try.func98, Try.ntmps98
  go_wp2
  go_quiet (fail)
  go_wp2_with (go_at_call 99; refine (fail_new s.x 10 _ (by exact c2) (by exact f2)).mono ?_; rintro r w1 ⟨rfl, rfl⟩)
  go_ret
  exact ⟨rfl, ((Turns.refl HS.out).drewN _).trans (ItS.setE (by exact ((Turns.refl HS.out).drewN _).now) 10)⟩
theorem one_ok (s : ItS) (w : World) (hs : s.own.holds w) (he : s.e = 0) (ha : s.at_ < s.r.bs.length) (hl : s.r.bs.length < 4611686018427387904) :
    Calls Try.prog 98 #[.pointer (some ⟨s.x, 0, none⟩)] w fun r w' => r = .returned (bv s.r.bs[s.at_]) ∧ Turns w w' s.own ({ s with at_ := s.at_ + 1 } : ItS).own := by
  obtain ⟨c0, c1, c2, f1, f2⟩ := ItS.cells hs
  obtain ⟨d0, d1, d2, _, _⟩ := RdS.cells hs.2.1
  obtain ⟨gv, c, hv, hcell, hlc⟩ := RdS.byte hs.2.1 s.at_ ha
  rw [hv] at d0
  rw [he] at c2
  have hd : (((s.at_ : Nat) : Int) == ((s.r.bs.length : Nat) : Int)) = false := by simp; omega
  have hw1 : IntKind.i64.wrap ((s.at_ : Int) + 1) = (s.at_ : Int) + 1 := IntWalk.i64_in _ (by omega)
  have hw2 : IntKind.i64.wrap ((s.at_ : Int) + 1 - 1) = (s.at_ : Int) := by rw [IntWalk.i64_in _ (by omega)]; omega
  have HS := Lib.hid hs
  clear hs
  go_enter Try.func98, Try.ntmps98
  go_wp2
  go_quiet (fail)
  go_wp2
  obtain ⟨W, hW⟩ : ∃ W, W = (w.drewN nq).setCell ⟨s.x, 1, none⟩ (.int .i64 ((s.at_ : Int) + 1)) := ⟨_, rfl⟩
  rw [← hW]
  have HT : Hid (Turns w W s.own ({ s with at_ := s.at_ + 1 } : ItS).own) := by rw [hW]; exact ((Turns.refl HS.out).drewN _).trans (ItS.setAt (by exact ((Turns.refl HS.out).drewN _).now) (s.at_ + 1) _ (by simp))
  clear hW
  obtain ⟨k0, k1, _, _, _⟩ := ItS.cells HT.out.now
  obtain ⟨e0, _, _, _, _⟩ := RdS.cells HT.out.now.2.1
  obtain ⟨gv', c', hv', hc', _⟩ := RdS.byte HT.out.now.2.1 s.at_ ha
  simp only [] at k0 k1 e0 hv' hc'
  obtain ⟨rfl, rfl⟩ : gv = gv' ∧ c = c' := by rw [hv] at hv'; simpa using hv'
  rw [hv] at e0
  rw [show (((s.at_ + 1 : Nat)) : Int) = (s.at_ : Int) + 1 by simp] at k1
  have hi1 : decide ((s.at_ : Int) < 0) = false := by simp
  have hi2 : decide ((s.at_ : Int) < (s.r.bs.length : Int)) = true := by simp; omega
  generalize hb : bv s.r.bs[s.at_] = u at *
  obtain ⟨z, rfl⟩ : ∃ z, u = .int .u8 z := ⟨_, hb.symm⟩
  have HB := Lib.hid hb
  clear hb
  go_quiet (fail)
  go_wp2
  go_ret
  have h2 := HT.out
  rw [he] at h2
  exact ⟨by rw [HB.out]; rfl, h2.drewN _⟩
end Go.Proofs.Ytkpgdonpmfebaaa.Bt

/- The reader of package bits: a number in groups. -/
namespace Go.Proofs.Ytkpgdonpmfebaaa.Bt
open Go.RowKit Go.Hp
attribute [local go_sem] min2_lean min_two max2_lean max_two
set_option linter.unusedSimpArgs false
set_option linter.unusedVariables false
set_option maxRecDepth 100000

/-- What is read in groups: the number, the place behind it, what is amiss. -/
def gr (most top : Nat) (bs : List UInt8) : Nat → Nat → Nat → Nat → Nat × Nat × Int
  | 0, _, n, a => (n, a, 0)
  | k + 1, i, n, a =>
    if h : a < bs.length then
      if i + 1 = most ∧ top < bs[a].toNat then (0, a + 1, 11)
      else if 0 < i ∧ bs[a].toNat = 0 then (0, a + 1, 12)
      else if bs[a].toNat < 128 then (n + bs[a].toNat * 128 ^ i, a + 1, 0)
      else gr most top bs k (i + 1) (n + (bs[a].toNat - 128) * 128 ^ i) (a + 1)
    else (0, a, 10)
theorem and127 (z : Nat) (hz : z < 256) : bits BinOp.and IntKind.u8 (z : Int) 127 = ((z % 128 : Nat) : Int) := by
  have h1 : ∀ a, a < 256 → a &&& 127 = a % 128 := by decide
  have h2 := u8_and_nat z 127 hz (by omega)
  rw [h1 z hz] at h2
  exact h2
theorem or_groups (n z i : Nat) (hz : z < 256) (hn : n < 128 ^ i) (hi : i ≤ 9) (h9 : i = 9 → z % 128 ≤ 1) :
    bits BinOp.or IntKind.u64 (n : Int) (IntKind.u64.wrap (IntKind.u64.wrap (bits BinOp.and IntKind.u8 (z : Int) 127) * 2 ^ (7 * i))) = ((n + (z % 128) * 128 ^ i : Nat) : Int) := by
  rw [and127 z hz]
  have hp : (2 : Nat) ^ (7 * i) = 128 ^ i := by rw [Nat.pow_mul]
  have hzm : z % 128 < 128 := Nat.mod_lt _ (by omega)
  have hb : (z % 128) * 128 ^ i < 2 ^ 64 := by
    by_cases h : i = 9
    · subst h
      have := h9 rfl
      have h3 : (128 : Nat) ^ 9 * 2 ≤ 2 ^ 64 := by decide
      have : (z % 128) * 128 ^ 9 ≤ 1 * 128 ^ 9 := Nat.mul_le_mul_right _ this
      have h4 : (0 : Nat) < 128 ^ 9 := by decide
      omega
    · have h1 : (128 : Nat) ^ i ≤ 128 ^ 8 := Nat.pow_le_pow_right (by decide) (by omega)
      have h2 : (z % 128) * 128 ^ i ≤ 127 * 128 ^ 8 := Nat.mul_le_mul (by omega) h1
      have h3 : (127 : Nat) * 128 ^ 8 < 2 ^ 64 := by decide
      omega
  have e1 : IntKind.u64.wrap (((z % 128 : Nat)) : Int) = ((z % 128 : Nat) : Int) := by rw [IntKind.wrap_u64]; omega
  have e2 : IntKind.u64.wrap (((z % 128 : Nat) : Int) * 2 ^ (7 * i)) = (((z % 128) * 128 ^ i : Nat) : Int) := by
    have : ((z % 128 : Nat) : Int) * 2 ^ (7 * i) = (((z % 128) * 128 ^ i : Nat) : Int) := by rw [← hp]; push_cast; rfl
    rw [this, IntKind.wrap_u64]
    omega
  have hn2 : n < 2 ^ 64 := by
    have : (128 : Nat) ^ i ≤ 128 ^ 9 := Nat.pow_le_pow_right (by decide) hi
    have h3 : (128 : Nat) ^ 9 < 2 ^ 64 := by decide
    omega
  rw [e1, e2, u64_or_nat _ _ hn2 hb]
  congr 1
  rw [← hp] at hn ⊢
  rw [Nat.or_comm, ← Nat.shiftLeft_eq, ← Nat.shiftLeft_add_eq_or_of_lt hn, Nat.shiftLeft_eq]
  omega
set_option maxHeartbeats 1000000 in
theorem groups_ok (s : ItS) (most top : Nat) (w : World) (hs : s.own.holds w) (he : s.e = 0) (ha : s.at_ ≤ s.r.bs.length) (hl : s.r.bs.length < 4611686018427387904) (hm : most ≤ 10) (ht : top ≤ 127) (ht2 : most = 10 → top ≤ 1) :
    Calls Try.prog 95 #[.pointer (some ⟨s.x, 0, none⟩), .int .i64 most, .int .u8 top] w fun r w' =>
      r = .returned (.int .u64 (gr most top s.r.bs most 0 0 s.at_).1) ∧ Turns w w' s.own ({ s with at_ := (gr most top s.r.bs most 0 0 s.at_).2.1, e := (gr most top s.r.bs most 0 0 s.at_).2.2 } : ItS).own := by
  obtain ⟨x, r, at_, e⟩ := s
  simp only [] at he ha hl
  subst he
  have HS := Lib.hid (Turns.refl hs)
  have HA := Lib.hid ha
  clear hs ha
  obtain ⟨G, hG⟩ : ∃ G, G = gr most top r.bs most 0 0 at_ := ⟨_, rfl⟩
  have HG := Lib.hid hG
  simp only []
  rw [← hG]
  clear hG
  go_enter Try.func95, Try.ntmps95
  go_wp2_with fail
  go_loopw [7, 11] (fun x7 x11 wr => ∃ (n i a : Nat), x7 = .int .u64 n ∧ x11 = .int .i64 i ∧ i ≤ most ∧ n < 128 ^ i ∧ a ≤ r.bs.length ∧ gr most top r.bs (most - i) i n a = G ∧ Turns w wr (ItS.mk x r at_ 0).own (ItS.mk x r a 0).own) (fun _ x11 _ => most - (intOf x11).toNat)
  case atStart => exact ⟨0, 0, at_, rfl, rfl, Nat.zero_le _, by simp, HA.out, HG.out.symm, HS.out⟩
  case round =>
    obtain ⟨n, i, a, rfl, rfl, hi, hn, hal, hg, hT⟩ := hrel
    have HT := Lib.hid hT
    have HGG := Lib.hid hg
    have HN := Lib.hid hn
    clear hT hg hn
    by_cases him : i < most
    · have hd : decide ((i : Int) < (most : Int)) = true := by simp; omega
      obtain ⟨k, hk⟩ : ∃ k, most - i = k + 1 := ⟨most - i - 1, by omega⟩
      rw [hk] at HGG
      by_cases haa : a < r.bs.length
      · obtain ⟨z, hz⟩ : ∃ z, r.bs[a].toNat = z := ⟨_, rfl⟩
        have hz8 : z < 256 := by rw [← hz]; exact r.bs[a].toNat_lt
        have HB : Hid (bv r.bs[a] = .int .u8 z) := by show bv r.bs[a] = _; rw [← hz]; rfl
        have HGG2 : Hid ((if i + 1 = most ∧ top < z then (0, a + 1, 11) else if 0 < i ∧ z = 0 then (0, a + 1, 12) else if z < 128 then (n + z * 128 ^ i, a + 1, 0) else gr most top r.bs k (i + 1) (n + (z - 128) * 128 ^ i) (a + 1)) = G) := by
          have := HGG.out
          rw [gr, dif_pos haa, hz] at this
          exact this
        clear HGG hz
        have HO1 := Lib.hid (one_ok (ItS.mk x r a 0) _ HT.out.now rfl haa hl)
        rw [HB.out] at HO1
        by_cases t1 : i + 1 = most ∧ top < z
        · have hd1 : ((i : Int) == (most : Int) - 1) = true := by simp; omega
          have hd2 : decide ((top : Int) < (z : Int)) = true := by simp; omega
          go_wp2_with (first
            | (go_at_call 98; refine HO1.out.mono ?_; rintro q w1 ⟨rfl, ht1⟩; have HT1 := Lib.hid (HT.out.trans ht1); have k2 := (ItS.cells ht1.now).2.2.1; have kf := (ItS.cells ht1.now).2.2.2.2; clear ht1; simp only [] at k2 kf)
            | (go_at_call 99; refine (fail_new x 11 _ (by exact k2) (by exact kf)).mono ?_; rintro q w2 ⟨rfl, rfl⟩))
          go_ret
          have := HGG2.out
          rw [if_pos t1] at this
          rw [← this]
          exact ⟨rfl, HT1.out.trans (ItS.setE HT1.out.now 11)⟩
        · have HGG3 := HGG2.out
          rw [if_neg t1] at HGG3
          have HGG4 := Lib.hid HGG3
          clear HGG2 HGG3
          have HA1 : (((i : Int) == (most : Int) - 1) = true ∧ decide (top < z) = false) ∨ (((i : Int) == (most : Int) - 1) = false ∧ True) := by
            by_cases h : i + 1 = most
            · left
              constructor
              · simp; omega
              · simp; omega
            · right
              constructor
              · simp; omega
              · trivial
          by_cases t2 : 0 < i ∧ z = 0
          · have hd3 : decide (0 < (i : Int)) = true := by simp; omega
            have hd4 : ((z : Int) == 0) = true := by simp; omega
            rcases HA1 with ⟨q1, q2⟩ | ⟨q1, q2⟩
            all_goals
              go_wp2_with (first
                | (go_at_call 98; refine HO1.out.mono ?_; rintro q w1 ⟨rfl, ht1⟩; have HT1 := Lib.hid (HT.out.trans ht1); have k2 := (ItS.cells ht1.now).2.2.1; have kf := (ItS.cells ht1.now).2.2.2.2; clear ht1; simp only [] at k2 kf)
                | (go_at_call 99; refine (fail_new x 12 _ (by exact k2) (by exact kf)).mono ?_; rintro q w2 ⟨rfl, rfl⟩))
              go_ret
              have := HGG4.out
              rw [if_pos t2] at this
              rw [← this]
              exact ⟨rfl, HT1.out.trans (ItS.setE HT1.out.now 12)⟩
          · have HGG3 := HGG4.out
            rw [if_neg t2] at HGG3
            have HGG5 := Lib.hid HGG3
            clear HGG4 HGG3
            have HOR := Lib.hid (or_groups n z i hz8 HN.out (by omega) (fun h => by
              have := Nat.mod_lt z (show 0 < 128 by omega)
              have h10 : most = 10 := by omega
              have := ht2 h10
              have : z ≤ top := by
                rcases Nat.lt_or_ge top z with h1 | h1
                · exact absurd ⟨by omega, h1⟩ t1
                · exact h1
              omega))
            have HA2 : (decide (0 < i) = false ∧ True) ∨ (decide (0 < i) = true ∧ ((z : Int) == 0) = false) := by
              by_cases h : i = 0
              · left; exact ⟨by simp; omega, trivial⟩
              · right; exact ⟨by simp; omega, by simp; omega⟩
            by_cases t3 : z < 128
            · have hd5 : decide ((z : Int) < 128) = true := by simp; omega
              rcases HA1 with ⟨q1, q2⟩ | ⟨q1, q2⟩ <;> rcases HA2 with ⟨q3, q4⟩ | ⟨q3, q4⟩
              all_goals
                go_wp2_with (first
                  | (go_at_call 98; refine HO1.out.mono ?_; rintro q w1 ⟨rfl, ht1⟩; have HT1 := Lib.hid (HT.out.trans ht1); have k2 := (ItS.cells ht1.now).2.2.1; have kf := (ItS.cells ht1.now).2.2.2.2; clear ht1; simp only [] at k2 kf))
                go_ret
                have := HGG5.out
                rw [if_pos t3] at this
                rw [← this]
                refine ⟨?_, HT1.out⟩
                simp only [Array.getD, go_sem]
                have h6 := HOR.out
                rw [Nat.mod_eq_of_lt t3] at h6
                simp [h6]
            · have hd5 : decide ((z : Int) < 128) = false := by simp; omega
              rcases HA1 with ⟨q1, q2⟩ | ⟨q1, q2⟩
              · exfalso
                simp at q2
                omega
              rcases HA2 with ⟨q3, q4⟩ | ⟨q3, q4⟩
              all_goals
                go_wp2_with (first
                  | (go_at_call 98; refine HO1.out.mono ?_; rintro q w1 ⟨rfl, ht1⟩; have HT1 := Lib.hid (HT.out.trans ht1); have k2 := (ItS.cells ht1.now).2.2.1; have kf := (ItS.cells ht1.now).2.2.2.2; clear ht1; simp only [] at k2 kf))
                go_roundw
                case rel =>
                  refine ⟨n + (z % 128) * 128 ^ i, i + 1, a + 1, by rw [HOR.out], by simp, by omega, ?_, by omega, ?_, HT1.out⟩
                  · have h1 := HN.out
                    have h2 := Nat.mod_lt z (show 0 < 128 by omega)
                    have h3 : (z % 128) * 128 ^ i ≤ 127 * 128 ^ i := Nat.mul_le_mul_right _ (by omega)
                    rw [Nat.pow_succ]
                    omega
                  · have := HGG5.out
                    rw [if_neg t3] at this
                    rw [← this, show most - (i + 1) = k by omega, show z % 128 = z - 128 by omega]
                case measure => simp [intOf]; omega
      · have hd2 : a = r.bs.length := by omega
        have HO1 := Lib.hid (one_short (ItS.mk x r a 0) _ HT.out.now rfl hd2 hl)
        go_wp2_with (first
          | (go_at_call 98; refine HO1.out.mono ?_; rintro q w1 ⟨rfl, ht1⟩; have HT1 := Lib.hid (HT.out.trans ht1); have k2 := (ItS.cells ht1.now).2.2.1; clear ht1; simp only [] at k2))
        go_ret
        have := HGG.out
        rw [gr, dif_neg haa] at this
        rw [← this]
        exact ⟨rfl, HT1.out⟩
    · have hd : decide ((i : Int) < (most : Int)) = false := by simp; omega
      go_wp2_with fail
      go_ret
      have := HGG.out
      rw [show most - i = 0 by omega, gr] at this
      rw [← this]
      exact ⟨rfl, HT.out⟩
end Go.Proofs.Ytkpgdonpmfebaaa.Bt

/- The reader of package bits: numbers, bytes. -/
namespace Go.Proofs.Ytkpgdonpmfebaaa.Bt
open Go.RowKit Go.Hp
attribute [local go_sem] min2_lean min_two max2_lean max_two
set_option linter.unusedSimpArgs false
set_option linter.unusedVariables false
set_option maxRecDepth 100000

theorem groups_err (s : ItS) (most top : Nat) (w : World) (hs : s.own.holds w) (he : (s.e == 0) = false) (hm : 1 ≤ most) (hm2 : most ≤ 10) :
    Calls Try.prog 95 #[.pointer (some ⟨s.x, 0, none⟩), .int .i64 most, .int .u8 top] w fun r w' => r = .returned (.int .u64 0) ∧ w = w' := by
  obtain ⟨x, r, at_, e⟩ := s
  simp only [] at he
  have HO := Lib.hid (one_err (ItS.mk x r at_ e) w hs he)
  obtain ⟨_, _, c2, _, _⟩ := ItS.cells hs
  simp only [] at c2
  have hne : (e != 0) = true := by simpa using he
  clear hs
  have hd : decide ((0 : Int) < (most : Int)) = true := by simp; omega
  have hd' : decide (0 < most) = true := by simp; omega
  go_enter Try.func95, Try.ntmps95
  go_wp2_with fail
  go_loopw [11] (fun x11 wr => x11 = .int .i64 0 ∧ w = wr) (fun _ _ => 0)
  case atStart => exact ⟨rfl, rfl⟩
  case round =>
    obtain ⟨rfl, rfl⟩ := hrel
    go_wp2_with (go_at_call 98; refine HO.out.mono ?_; rintro q w1 ⟨rfl, rfl⟩)
    go_ret
    exact ⟨rfl, rfl⟩
/-- What 'num' reads, of an item that is whole. -/
def numOf (most : Int) (big : Int) (bs : List UInt8) (a : Nat) : Int × Nat × Int :=
  let q := gr 9 127 bs 9 0 0 a
  if q.2.2 = 0 then (if most < q.1 then (0, q.2.1, big) else (q.1, q.2.1, 0)) else (0, q.2.1, q.2.2)
theorem num_item_err (s : ItS) (most big : Int) (w : World) (hs : s.own.holds w) (he : (s.e == 0) = false) :
    Calls Try.prog 83 #[.pointer (some ⟨s.x, 0, none⟩), .int .i64 most, .int .i64 big] w fun r w' => r = .returned (.int .i64 0) ∧ w = w' := by
  have HO := Lib.hid (groups_err s 9 127 w hs he (by omega) (by omega))
  obtain ⟨_, _, c2, _, _⟩ := ItS.cells hs
  have hne : (s.e != 0) = true := by simpa using he
  clear hs
  go_enter Try.func83, Try.ntmps83
  go_wp2_with (go_at_call 95; refine HO.out.mono ?_; rintro q w1 ⟨rfl, rfl⟩)
  go_ret
  exact ⟨rfl, rfl⟩
theorem gr_val (most top : Nat) (bs : List UInt8) : ∀ k i n a, i + k = most → n < 128 ^ i → (gr most top bs k i n a).1 < 128 ^ most := by
  intro k
  induction k with
  | zero => intro i n a hi hn; rw [gr]; simpa [← hi] using hn
  | succ k ih =>
    intro i n a hi hn
    have hp : 0 < (128 : Nat) ^ most := Nat.pow_pos (by omega)
    have h1 : (128 : Nat) ^ (i + 1) ≤ 128 ^ most := Nat.pow_le_pow_right (by omega) (by omega)
    rw [Nat.pow_succ] at h1
    rw [gr]
    split
    · split
      · exact hp
      · split
        · exact hp
        · split
          · rename_i hlt
            have : bs[a].toNat * 128 ^ i ≤ 127 * 128 ^ i := Nat.mul_le_mul_right _ (by omega)
            show n + bs[a].toNat * 128 ^ i < _
            omega
          · refine ih _ _ _ (by omega) ?_
            have := bs[a].toNat_lt
            have : (bs[a].toNat - 128) * 128 ^ i ≤ 127 * 128 ^ i := Nat.mul_le_mul_right _ (by omega)
            rw [Nat.pow_succ]
            omega
    · exact hp
theorem gr_place (most top : Nat) (bs : List UInt8) : ∀ k i n a, a ≤ bs.length → a ≤ (gr most top bs k i n a).2.1 ∧ (gr most top bs k i n a).2.1 ≤ bs.length := by
  intro k
  induction k with
  | zero => intro i n a ha; rw [gr]; exact ⟨Nat.le_refl _, ha⟩
  | succ k ih =>
    intro i n a ha
    rw [gr]
    split
    · split
      · exact ⟨Nat.le_succ _, by simp only []; omega⟩
      · split
        · exact ⟨Nat.le_succ _, by simp only []; omega⟩
        · split
          · exact ⟨Nat.le_succ _, by simp only []; omega⟩
          · have := ih (i + 1) (n + (bs[a].toNat - 128) * 128 ^ i) (a + 1) (by omega)
            exact ⟨by omega, this.2⟩
    · exact ⟨Nat.le_refl _, ha⟩
theorem gr_val10 (bs : List UInt8) : ∀ k i n a, i + k = 10 → n < 128 ^ i → i ≤ 9 → (gr 10 1 bs k i n a).2.2 = 0 → (gr 10 1 bs k i n a).1 < 2 ^ 64 := by
  intro k
  induction k with
  | zero => intro i n a hi hn h9; omega
  | succ k ih =>
    intro i n a hi hn h9 h0
    rw [gr] at h0 ⊢
    split at h0
    · rename_i hlt
      rw [dif_pos hlt]
      split at h0
      · simp at h0
      · rename_i hw
        rw [if_neg hw]
        split at h0
        · simp at h0
        · rename_i hz
          rw [if_neg hz]
          split at h0
          · rename_i hc
            rw [if_pos hc]
            show n + bs[a].toNat * 128 ^ i < _
            by_cases h : i = 9
            · subst h
              have : bs[a].toNat ≤ 1 := by omega
              have : bs[a].toNat * 128 ^ 9 ≤ 1 * 128 ^ 9 := Nat.mul_le_mul_right _ this
              have h3 : (128 : Nat) ^ 9 * 2 = 2 ^ 64 := by decide
              omega
            · have h1 : (128 : Nat) ^ i ≤ 128 ^ 8 := Nat.pow_le_pow_right (by decide) (by omega)
              have h2 : bs[a].toNat * 128 ^ i ≤ 127 * 128 ^ 8 := Nat.mul_le_mul (by omega) h1
              have h3 : (127 : Nat) * 128 ^ 8 + 128 ^ 8 ≤ 2 ^ 64 := by decide
              omega
          · rename_i hc
            rw [if_neg hc]
            by_cases h : i = 9
            · subst h
              exfalso
              exact hw ⟨rfl, by omega⟩
            · refine ih _ _ _ (by omega) ?_ (by omega) h0
              have := bs[a].toNat_lt
              have : (bs[a].toNat - 128) * 128 ^ i ≤ 127 * 128 ^ i := Nat.mul_le_mul_right _ (by omega)
              rw [Nat.pow_succ]
              omega
    · simp at h0
set_option maxHeartbeats 1000000 in
theorem num_item_ok (s : ItS) (most big : Int) (w : World) (hs : s.own.holds w) (he : s.e = 0) (ha : s.at_ ≤ s.r.bs.length) (hl : s.r.bs.length < 4611686018427387904) (hb : (big == 0) = false) :
    Calls Try.prog 83 #[.pointer (some ⟨s.x, 0, none⟩), .int .i64 most, .int .i64 big] w fun r w' =>
      r = .returned (.int .i64 (numOf most big s.r.bs s.at_).1) ∧ Turns w w' s.own ({ s with at_ := (numOf most big s.r.bs s.at_).2.1, e := (numOf most big s.r.bs s.at_).2.2 } : ItS).own := by
  have HO := Lib.hid (groups_ok s 9 127 w hs he ha hl (by omega) (by omega) (by omega))
  have hv := gr_val 9 127 s.r.bs 9 0 0 s.at_ rfl (by decide)
  have hnb : (big != 0) = true := by simpa using hb
  obtain ⟨N, hN⟩ : ∃ N, N = numOf most big s.r.bs s.at_ := ⟨_, rfl⟩
  have HN := Lib.hid hN
  rw [← hN]
  simp only [numOf] at HN
  clear hN
  generalize gr 9 127 s.r.bs 9 0 0 s.at_ = q at *
  obtain ⟨q1, q2, q3⟩ := q
  simp only [] at hv HN HO
  have hv2 : q1 < 9223372036854775808 := by have : (128 : Nat) ^ 9 = 9223372036854775808 := by decide
                                            omega
  have hcv : IntKind.i64.wrap (q1 : Int) = (q1 : Int) := IntWalk.i64_in _ (by omega)
  clear hs hv
  go_enter Try.func83, Try.ntmps83
  by_cases h3 : q3 = 0
  · subst h3
    by_cases h4 : most < (q1 : Int)
    · have hd : decide (most < (q1 : Int)) = true := by simpa using h4
      go_wp2_with (first
        | (go_at_call 95; refine HO.out.mono ?_; rintro q w1 ⟨rfl, ht1⟩; have HT1 := Lib.hid ht1; have k2 := (ItS.cells ht1.now).2.2.1; have kf := (ItS.cells ht1.now).2.2.2.2; clear ht1; simp only [] at k2 kf)
        | (go_at_call 99; refine (fail_new s.x big _ (by exact k2) (by exact kf)).mono ?_; rintro q w2 ⟨rfl, rfl⟩))
      go_ret
      have := HN.out
      rw [if_pos trivial, if_pos (by omega)] at this
      rw [this]
      exact ⟨rfl, HT1.out.trans (ItS.setE HT1.out.now big)⟩
    · have hd : decide (most < (q1 : Int)) = false := by simpa using h4
      go_wp2_with (first
        | (go_at_call 95; refine HO.out.mono ?_; rintro q w1 ⟨rfl, ht1⟩; have HT1 := Lib.hid ht1; have k2 := (ItS.cells ht1.now).2.2.1; have kf := (ItS.cells ht1.now).2.2.2.2; clear ht1; simp only [] at k2 kf))
      go_ret
      have := HN.out
      rw [if_pos trivial, if_neg (by omega)] at this
      rw [this]
      exact ⟨rfl, HT1.out⟩
  · have hd1 : (q3 == 0) = false := by simpa using h3
    have hd2 : (q3 != 0) = true := by simpa using h3
    go_wp2_with (first
      | (go_at_call 95; refine HO.out.mono ?_; rintro q w1 ⟨rfl, ht1⟩; have HT1 := Lib.hid ht1; have k2 := (ItS.cells ht1.now).2.2.1; have kf := (ItS.cells ht1.now).2.2.2.2; clear ht1; simp only [] at k2 kf))
    go_ret
    have := HN.out
    rw [if_neg h3] at this
    rw [this]
    exact ⟨rfl, HT1.out⟩
end Go.Proofs.Ytkpgdonpmfebaaa.Bt
