/- Things in memory, each with the blocks that it takes; a family of things that share no block; what a step turns. Plain lemmas on worlds. -/
import Derived.Test.YtmpkjfengfgagaaHp
import Derived.Laws.OwnMore
import Derived.Maps.AppendAt
import Derived.Deep.MidRow
import Derived.RegionTactic
namespace Go.Hp
open Go.RowKit

structure Own where
  foot : Nat → Prop
  holds : World → Prop
  stable : ∀ {w w' : World}, holds w → (∀ b, foot b → w'.heap[b]? = w.heap[b]?) → holds w'
  lt : ∀ {w : World}, holds w → ∀ b, foot b → b < w.heap.size

theorem row_heap {w w' : World} {B : Nat} {e : TypeId} {size n : Nat} {v : Value} {xs : List Value} (h : w.ownsRow B e size v n xs) (hb : ∀ b, v.ownBlock = some b → w'.heap[b]? = w.heap[b]?) : w'.ownsRow B e size v n xs := by
  refine ⟨h.1, ?_⟩
  rcases h.2 with hn | ⟨g, cap, cur, rfl, h1, hgg, rest⟩
  · exact .inl hn
  · exact .inr ⟨g, cap, cur, rfl, h1, by rw [hb g rfl]; exact hgg, rest⟩

def Own.emp : Own := ⟨fun _ => False, fun _ => True, fun _ _ => trivial, fun _ _ h => h.elim⟩
def Own.blk (g : Nat) (cs : Array Value) (T : TypeId) : Own := ⟨(· = g), fun w => Blk w g cs T, fun h hb => by unfold Blk at *; rw [hb g rfl]; exact h, fun h b hb => by cases hb; exact Blk.lt h⟩
def Own.row (E : TypeId) (size : Nat) (v : Value) (n : Nat) (xs : List Value) : Own :=
  ⟨fun b => v.ownBlock = some b, fun w => w.ownsRow 0 E size v n xs, fun h hb => row_heap h hb, fun h b hb => (h.lt b hb).2⟩
def Own.both (A B : Own) : Own :=
  ⟨fun b => A.foot b ∨ B.foot b, fun w => A.holds w ∧ B.holds w ∧ ∀ b, A.foot b → B.foot b → False,
    fun h hb => ⟨A.stable h.1 fun b hf => hb b (Or.inl hf), B.stable h.2.1 fun b hf => hb b (Or.inr hf), h.2.2⟩,
    fun h b hb => hb.elim (A.lt h.1 b) (B.lt h.2.1 b)⟩

theorem Own.chg {O : Own} {w w' : World} {S : Nat → Prop} (h : O.holds w) (hc : Chg S w w') (hS : ∀ b, O.foot b → ¬ S b) : O.holds w' :=
  O.stable h fun b hb => hc.block b (O.lt h b hb) (hS b hb)

/-- A step turns one thing into another: its own blocks and new ones alone. -/
structure Turns (w w' : World) (O O' : Own) : Prop where
  chg : Chg O.foot w w'
  now : O'.holds w'
  near : ∀ b, O'.foot b → O.foot b ∨ w.heap.size ≤ b

theorem Turns.refl {w : World} {O : Own} (h : O.holds w) : Turns w w O O := ⟨Chg.refl _ _, h, fun _ hb => Or.inl hb⟩
theorem Turns.trans {w w' w'' : World} {O O' O'' : Own} (h : Turns w w' O O') (k : Turns w' w'' O' O'') : Turns w w'' O O'' :=
  ⟨⟨k.chg.os.trans h.chg.os, k.chg.tape.trans h.chg.tape, k.chg.output.trans h.chg.output, Nat.le_trans h.chg.size k.chg.size, fun i hi hS =>
      (k.chg.block i (Nat.lt_of_lt_of_le hi h.chg.size) (fun hf => (h.near i hf).elim hS (fun hge => by omega))).trans (h.chg.block i hi hS)⟩,
    k.now, fun b hb => (k.near b hb).elim (h.near b) (fun hge => Or.inr (Nat.le_trans h.chg.size hge))⟩
theorem Turns.drew {w w' : World} {O O' : Own} (h : Turns w w' O O') : Turns w w'.drew O O' := ⟨h.chg.drew, O'.stable h.now fun _ _ => rfl, h.near⟩
theorem Turns.drewN {w w' : World} {O O' : Own} (h : Turns w w' O O') (n : Nat) : Turns w (w'.drewN n) O O' := ⟨h.chg.drewN n, O'.stable h.now fun _ _ => rfl, h.near⟩
theorem Turns.alloc {w w' : World} {O O' : Own} (h : Turns w w' O O') (o : Obj) : Turns w (w'.alloc o) O O' :=
  ⟨h.chg.alloc o, O'.stable h.now fun b hb => Below.heap_alloc _ _ _ (O'.lt h.now b hb), h.near⟩
theorem Turns.drewl {w w' : World} {O O' : Own} (h : Turns w.drew w' O O') : Turns w w' O O' := ⟨⟨h.chg.os, h.chg.tape, h.chg.output, h.chg.size, h.chg.block⟩, h.now, h.near⟩
theorem Turns.drewNl {w w' : World} {O O' : Own} {n : Nat} (h : Turns (w.drewN n) w' O O') : Turns w w' O O' := ⟨⟨h.chg.os, h.chg.tape, h.chg.output, h.chg.size, h.chg.block⟩, h.now, h.near⟩

theorem Turns.wide {w w' : World} {O' : Own} (h : Turns w w' Own.emp O') (O : Own) : Turns w w' O O' :=
  ⟨h.chg.mono fun _ _ hf => hf.elim, h.now, fun b hb => (h.near b hb).elim (fun hf => hf.elim) Or.inr⟩
theorem Turns.blk_set {w : World} {g : Nat} {cs : Array Value} {T : TypeId} (h : Blk w g cs T) (o : Nat) (v : Value) : Turns w (w.setCell ⟨g, o, none⟩ v) (Own.blk g cs T) (Own.blk g (cs.setIfInBounds o v) T) :=
  ⟨Chg.set (S := (· = g)) (Chg.refl _ w) (p := ⟨g, o, none⟩) (Or.inr rfl) v, h.set o v, fun _ hb => Or.inl hb⟩
theorem Turns.blk_new (w : World) (cs : Array Value) (T : TypeId) : Turns w (w.alloc (.cells cs T)) Own.emp (Own.blk w.heap.size cs T) :=
  ⟨(Chg.refl _ _).alloc _, Blk.new _ _ _, fun b hb => by cases hb; exact Or.inr (Nat.le_refl _)⟩
theorem Turns.new {w : World} (O : Own) (cs : Array Value) (T : TypeId) : Turns w (w.alloc (.cells cs T)) O (Own.blk w.heap.size cs T) :=
  ⟨(Chg.refl _ _).alloc _, Blk.new _ _ _, fun b hb => by cases hb; exact Or.inr (Nat.le_refl _)⟩
theorem Turns.of_setBlk {w w' : World} {g : Nat} {cs cs' : Array Value} {T T' : TypeId} (h : SetBlk w w' g cs' T) : Turns w w' (Own.blk g cs T') (Own.blk g cs' T) :=
  ⟨h.chg, h.blk, fun _ hb => Or.inl hb⟩
theorem Chg.of_grown {w w' : World} {row : Option Nat} (h : w.grownBy w' row) : Chg (fun b => row = some b) w w' := ⟨h.os, h.tape, h.output, h.size, fun k hk hS => h.block k hk (fun e => hS e.symm)⟩
theorem row_form {w : World} {B : Nat} {E : TypeId} {size n : Nat} {v : Value} {xs : List Value} (h : w.ownsRow B E size v n xs) (hn : 1 ≤ n) :
    ∃ g cap, v = .slice (some ⟨g, 0, none⟩) n cap ∧ g < w.heap.size ∧ n ≤ cap := by
  rcases h.2 with ⟨_, h0⟩ | ⟨g, cap, cur, rfl, _, hh, hc, _⟩
  · omega
  · exact ⟨g, cap, rfl, Blk.lt hh, hc⟩
/-- Behind an append, a make, a store: the law's own words. -/
theorem Turns.row {w w' : World} {E E' : TypeId} {size size' n n' : Nat} {v v' : Value} {xs ys : List Value} (h : w'.ownsRow 0 E' size' v' n' ys) (hg : w.grownBy w' v.ownBlock) (hat : v'.ownBlock = v.ownBlock ∨ v'.ownBlock = some w.heap.size) :
    Turns w w' (Own.row E size v n xs) (Own.row E' size' v' n' ys) :=
  ⟨Chg.of_grown hg, h, fun b hb => by
    have hb : v'.ownBlock = some b := hb
    rcases hat with e | e
    · exact Or.inl (show v.ownBlock = some b by rw [← e]; exact hb)
    · rw [e] at hb; cases hb; exact Or.inr (Nat.le_refl _)⟩

theorem Turns.row_lit (w : World) (O : Own) (cs : Array Value) (E : TypeId) (size n : Nat) (hm : n ≤ maxLen) (hs : cs.size = n * size) :
    Turns w (w.alloc (.cells cs E)) O (Own.row E size (.slice (some ⟨w.heap.size, 0, none⟩) n n) n cs.toList) :=
  ⟨(Chg.refl _ _).alloc _, World.ownsRow_lit w cs n (Nat.zero_le _) hm hs, fun b hb => by
    have hb : some w.heap.size = some b := hb
    cases hb; exact Or.inr (Nat.le_refl _)⟩
/-- A store into a row. -/
theorem Turns.row_set {w : World} {g cap n : Nat} {E : TypeId} {size : Nat} {xs : List Value} (h : w.ownsRow 0 E size (.slice (some ⟨g, 0, none⟩) n cap) n xs) (j : Nat) (u : Value) :
    Turns w (w.setCell ⟨g, j, none⟩ u) (Own.row E size (.slice (some ⟨g, 0, none⟩) n cap) n xs) (Own.row E size (.slice (some ⟨g, 0, none⟩) n cap) n (xs.set j u)) :=
  have k := h.stored j u
  Turns.row k.1 k.2 (Or.inl rfl)
/-- A store of a struct's cells, as a step of a region that draws. -/
theorem step_store_mid {P : Program} {ops : Array Oper} {o : Oper} {a : Act} {w : World} {K : Act → World → Prop} {Q : Exit → Act → World → Prop} {E : Prop} (hgd : o.guard = none) (ty : TypeId) (x y : Operand) (ho : o.op = .store ty x y)
    (b off : Nat) (cells : Array Value) (hx : a.eval x = .pointer (some ⟨b, off, none⟩)) (hy : a.eval y = .agg cells)
    (ht : w.there b off cells.size) (hi : (P.info? ty).map (·.size) = some cells.size) (h1 : cells.all (·.oneCell') = true)
    (h : K (a.put o.dst undef) (w.setCells b off cells.toList)) : if Region.wanted o (yielded ops a.tmps) = true then Oper.wp P o a w K Q else E := by
  have hw : Region.wanted o (yielded ops a.tmps) = true := by simp [Region.wanted, hgd]
  rw [if_pos hw]
  exact wp_store_mid ty x y ho b off cells hx hy ht hi h1 h

variable {ι : Type}
/-- Things that share no block, all of them newer than w0; what stood in w0 stands. -/
structure Sep (w0 w : World) (F : ι → Own) : Prop where
  bel : Below w0.heap.size w0 w
  all : ∀ i, (F i).holds w
  priv : ∀ i b, (F i).foot b → w0.heap.size ≤ b
  apart : ∀ i j b, (F i).foot b → (F j).foot b → i = j

def upd [DecidableEq ι] (F : ι → Own) (i : ι) (O : Own) : ι → Own := fun j => if j = i then O else F j

theorem Sep.turn [DecidableEq ι] {w0 w w' : World} {F : ι → Own} (h : Sep w0 w F) (i : ι) {O' : Own} (ht : Turns w w' (F i) O') : Sep w0 w' (upd F i O') := by
  refine ⟨?_, fun j => ?_, fun j b hb => ?_, fun j k b hj hk => ?_⟩
  · refine h.bel.trans ⟨ht.chg.os, ht.chg.tape, ht.chg.output, ht.chg.size, fun k hk => ht.chg.block k (Nat.lt_of_lt_of_le hk h.bel.size) (fun hf => ?_)⟩
    have := h.priv i k hf
    omega
  · unfold upd
    split
    · exact ht.now
    · rename_i hne
      exact Own.chg (h.all j) ht.chg (fun b hb hi => hne (h.apart j i b hb hi))
  · unfold upd at hb
    split at hb
    · rcases ht.near b hb with hf | hge
      · exact h.priv i b hf
      · exact Nat.le_trans h.bel.size hge
    · exact h.priv j b hb
  · have key : ∀ j, j ≠ i → (F j).foot b → O'.foot b → False := fun j hne hf ho => by
      rcases ht.near b ho with hf' | hge
      · exact hne (h.apart j i b hf hf')
      · have := (F j).lt (h.all j) b hf
        omega
    unfold upd at hj hk
    split at hj <;> split at hk
    · rename_i e1 e2; rw [e1, e2]
    · rename_i e1 e2; exact (key k e2 hk hj).elim
    · rename_i e1 e2; exact (key j e1 hj hk).elim
    · exact h.apart j k b hj hk
theorem Sep.as {w0 w : World} {F G : ι → Own} (h : Sep w0 w F) (e : ∀ i, F i = G i) : Sep w0 w G := by
  have : F = G := funext e
  exact this ▸ h
theorem Sep.kept {w0 w w' : World} {F : ι → Own} (h : Sep w0 w F) (hc : Chg (fun _ => False) w w') : Sep w0 w' F :=
  ⟨h.bel.trans ⟨hc.os, hc.tape, hc.output, hc.size, fun k hk => hc.block k (Nat.lt_of_lt_of_le hk h.bel.size) id⟩, fun i => Own.chg (h.all i) hc (fun _ _ => id), h.priv, h.apart⟩
theorem Sep.alloc {w0 w : World} {F : ι → Own} (h : Sep w0 w F) (o : Obj) : Sep w0 (w.alloc o) F := h.kept ((Chg.refl _ _).alloc o)
theorem Sep.drew {w0 w : World} {F : ι → Own} (h : Sep w0 w F) : Sep w0 w.drew F := h.kept ((Chg.refl _ _).drew)
theorem Sep.drewN {w0 w : World} {F : ι → Own} (h : Sep w0 w F) (n : Nat) : Sep w0 (w.drewN n) F := h.kept ((Chg.refl _ _).drewN n)
theorem Sep.start (w0 : World) : Sep (ι := ι) w0 w0 (fun _ => Own.emp) := ⟨Below.refl _ _, fun _ => trivial, fun _ _ h => h.elim, fun _ _ _ h => h.elim⟩
/-- A store into a block that none of them takes (a box of the caller's own). -/
theorem Sep.far {w0 w : World} {F : ι → Own} (h : Sep w0 w F) {p : Addr} (hp : w0.heap.size ≤ p.block) (hf : ∀ i, ¬ (F i).foot p.block) (v : Value) : Sep w0 (w.setCell p v) F :=
  ⟨h.bel.setCell hp v, fun i => (F i).stable (h.all i) fun _ hb => Below.heap_setCell _ _ _ _ (fun e => hf i (e ▸ hb)), h.priv, h.apart⟩
end Go.Hp
