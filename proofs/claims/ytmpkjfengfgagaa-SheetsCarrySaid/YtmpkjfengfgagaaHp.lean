/- Blocks of cells that are known whole, and what a call has turned. Plain lemmas on worlds. -/
import Derived.WalkKit
import Derived.Below
import Derived.OneCell
import Derived.Deep.Draws
import Derived.ProofKit
import Derived.SizedLaws
namespace Go.Hp
open Go.RowKit

/-- Block b of w is the row cs of type t, not frozen. -/
def Blk (w : World) (b : Nat) (cs : Array Value) (t : TypeId) : Prop := w.heap[b]? = some (.cells cs t (0, 0))

theorem Blk.lt {w : World} {b : Nat} {cs : Array Value} {t : TypeId} (h : Blk w b cs t) : b < w.heap.size := by
  unfold Blk at h
  by_cases hb : b < w.heap.size
  · exact hb
  · rw [Array.getElem?_eq_none (by omega)] at h; cases h

theorem Blk.cell {w : World} {b : Nat} {cs : Array Value} {t : TypeId} (h : Blk w b cs t) (o : Nat) : w.cell? ⟨b, o, none⟩ = cs[o]? := by
  unfold Blk at h
  simp [World.cell?, h]

theorem Blk.frozen {w : World} {b : Nat} {cs : Array Value} {t : TypeId} (h : Blk w b cs t) (o : Nat) : w.frozen? ⟨b, o, none⟩ = false := by
  unfold Blk at h
  simp [World.frozen?, h]

theorem Blk.alloc {w : World} {b : Nat} {cs : Array Value} {t : TypeId} (h : Blk w b cs t) (o : Obj) : Blk (w.alloc o) b cs t := by
  have hl := h.lt
  unfold Blk at *
  rw [Below.heap_alloc w o b hl]; exact h

theorem Blk.new (w : World) (cs : Array Value) (t : TypeId) : Blk (w.alloc (.cells cs t)) w.heap.size cs t := by
  unfold Blk
  show (w.heap.push _)[w.heap.size]? = _
  simp

theorem Blk.drew {w : World} {b : Nat} {cs : Array Value} {t : TypeId} (h : Blk w b cs t) : Blk w.drew b cs t := h
theorem Blk.drewN {w : World} {b : Nat} {cs : Array Value} {t : TypeId} (h : Blk w b cs t) (n : Nat) : Blk (w.drewN n) b cs t := h

theorem Blk.set {w : World} {b : Nat} {cs : Array Value} {t : TypeId} (h : Blk w b cs t) (o : Nat) (v : Value) : Blk (w.setCell ⟨b, o, none⟩ v) b (cs.setIfInBounds o v) t := by
  unfold Blk at *
  simp [World.setCell, Array.getElem?_modify, h]

theorem Blk.set_ne {w : World} {b : Nat} {cs : Array Value} {t : TypeId} (h : Blk w b cs t) {a : Addr} (ha : b ≠ a.block) (v : Value) : Blk (w.setCell a v) b cs t := by
  unfold Blk at *
  rw [Below.heap_setCell w a v b ha]; exact h

theorem Blk.inj {w : World} {b : Nat} {cs cs' : Array Value} {t t' : TypeId} (h : Blk w b cs t) (h' : Blk w b cs' t') : cs = cs' ∧ t = t' := by
  unfold Blk at *
  rw [h] at h'
  simp at h'
  exact h'

theorem Blk.below {w w' : World} {b : Nat} {cs : Array Value} {t : TypeId} (h : Blk w b cs t) {B : Nat} (hb : Below B w w') (hB : b < B) : Blk w' b cs t := by
  unfold Blk at *
  rw [hb.block b hB]; exact h

/-- What stood in w stands in w', but for the blocks of S; new blocks may have come. -/
structure Chg (S : Nat → Prop) (w w' : World) : Prop where
  os : w'.os = w.os
  tape : w'.tape = w.tape
  output : w'.output = w.output
  size : w.heap.size ≤ w'.heap.size
  block : ∀ k, k < w.heap.size → ¬ S k → w'.heap[k]? = w.heap[k]?

theorem Chg.refl (S : Nat → Prop) (w : World) : Chg S w w := ⟨rfl, rfl, rfl, Nat.le_refl _, fun _ _ _ => rfl⟩
theorem Chg.trans {S : Nat → Prop} {a b c : World} (h : Chg S a b) (k : Chg S b c) : Chg S a c :=
  ⟨k.os.trans h.os, k.tape.trans h.tape, k.output.trans h.output, Nat.le_trans h.size k.size, fun i hi hS => (k.block i (Nat.lt_of_lt_of_le hi h.size) hS).trans (h.block i hi hS)⟩
theorem Chg.mono {S T : Nat → Prop} {a b : World} (h : Chg S a b) (hT : ∀ k, k < a.heap.size → S k → T k) : Chg T a b :=
  ⟨h.os, h.tape, h.output, h.size, fun i hi hS => h.block i hi (fun hs => hS (hT i hi hs))⟩
theorem Chg.drew {S : Nat → Prop} {a b : World} (h : Chg S a b) : Chg S a b.drew := ⟨h.os, h.tape, h.output, h.size, h.block⟩
theorem Chg.drewN {S : Nat → Prop} {a b : World} (h : Chg S a b) (n : Nat) : Chg S a (b.drewN n) := ⟨h.os, h.tape, h.output, h.size, h.block⟩
theorem Chg.alloc {S : Nat → Prop} {a b : World} (h : Chg S a b) (o : Obj) : Chg S a (b.alloc o) :=
  h.trans ⟨rfl, rfl, rfl, by simp, fun k hk _ => Below.heap_alloc _ _ _ hk⟩
/-- A store into a block of S, or into one that is new since a. -/
theorem Chg.set {S : Nat → Prop} {a b : World} (h : Chg S a b) {p : Addr} (hp : a.heap.size ≤ p.block ∨ S p.block) (v : Value) : Chg S a (b.setCell p v) :=
  ⟨h.os, h.tape, h.output, by have := h.size; simpa [World.setCell] using this, fun i hi hS => by
    rw [Below.heap_setCell _ _ _ _ (by rintro rfl; rcases hp with hp | hp; · omega
                                       · exact hS hp)]; exact h.block i hi hS⟩
theorem Chg.below {S : Nat → Prop} {a b : World} (h : Chg S a b) {B : Nat} (hS : ∀ k, S k → B ≤ k) (hB : B ≤ a.heap.size) : Below B a b :=
  ⟨h.os, h.tape, h.output, h.size, fun k hk => h.block k (by omega) (fun hs => by have := hS k hs; omega)⟩
theorem Chg.of_below {w w' : World} (h : Below w.heap.size w w') (S : Nat → Prop) : Chg S w w' := ⟨h.os, h.tape, h.output, h.size, fun k hk _ => h.block k hk⟩
theorem Chg.cell {S : Nat → Prop} {w w' : World} (hc : Chg S w w') {p : Addr} (hp : p.block < w.heap.size) (hS : ¬ S p.block) : w'.cell? p = w.cell? p := World.cell?_of_block (w := w) (hc.block p.block hp hS)
theorem Chg.frozen {S : Nat → Prop} {w w' : World} (hc : Chg S w w') {p : Addr} (hp : p.block < w.heap.size) (hS : ¬ S p.block) : w'.frozen? p = w.frozen? p := World.frozen?_of_block (w := w) (hc.block p.block hp hS)
theorem Blk.chg {w w' : World} {b : Nat} {cs : Array Value} {t : TypeId} (h : Blk w b cs t) {S : Nat → Prop} (hc : Chg S w w') (hS : ¬ S b) : Blk w' b cs t := by
  have hl := h.lt
  unfold Blk at *
  rw [hc.block b hl hS]; exact h

/-- Block g alone has turned: it holds cs now. -/
structure SetBlk (w w' : World) (g : Nat) (cs : Array Value) (T : TypeId) : Prop where
  blk : Blk w' g cs T
  size : w'.heap.size = w.heap.size
  chg : Chg (· = g) w w'

theorem SetBlk.of_set {w : World} {g : Nat} {cs : Array Value} {T : TypeId} (h : Blk w g cs T) (o : Nat) (v : Value) : SetBlk w (w.setCell ⟨g, o, none⟩ v) g (cs.setIfInBounds o v) T :=
  ⟨h.set o v, by simp [World.setCell], Chg.set (S := (· = g)) (Chg.refl _ w) (p := ⟨g, o, none⟩) (Or.inr rfl) v⟩
theorem SetBlk.then {w w' : World} {g : Nat} {cs : Array Value} {T : TypeId} (h : SetBlk w w' g cs T) (o : Nat) (v : Value) : SetBlk w (w'.setCell ⟨g, o, none⟩ v) g (cs.setIfInBounds o v) T :=
  ⟨h.blk.set o v, by rw [← h.size]; simp [World.setCell], Chg.set (S := (· = g)) h.chg (p := ⟨g, o, none⟩) (Or.inr rfl) v⟩
theorem SetBlk.drew {w w' : World} {g : Nat} {cs : Array Value} {T : TypeId} (h : SetBlk w w' g cs T) : SetBlk w w'.drew g cs T := ⟨h.blk, h.size, h.chg.drew⟩
theorem SetBlk.drewl {w w' : World} {g : Nat} {cs : Array Value} {T : TypeId} (h : SetBlk w.drew w' g cs T) : SetBlk w w' g cs T := ⟨h.blk, h.size, ⟨h.chg.os, h.chg.tape, h.chg.output, h.chg.size, h.chg.block⟩⟩
theorem SetBlk.drewN {w w' : World} {g : Nat} {cs : Array Value} {T : TypeId} (h : SetBlk w w' g cs T) (n : Nat) : SetBlk w (w'.drewN n) g cs T := ⟨h.blk, h.size, h.chg.drewN n⟩

/-- A value that came in as an argument: it can be read as data, and what is read takes no more than fits. -/
def ArgOk (P : Program) (W : World) (T : TypeId) (v : Value) : Prop :=
  ∃ (H : Type) (enc : TypeId × Value → H) (d : DataW H) (p : List MemPlace) (base : Nat), Value.okWide P W .any base T v ∧ DataW.Trod enc P W 0 (fun _ => true) true T v d p ∧ (d.weights P T).all (· ≤ reachBytes) = true

theorem min2_lean (k k' : IntKind) (x y : Int) : Builtin.min2 (.int k x) (.int k' y) = pure (.int k (min x y)) := by
  simp only [Builtin.min2]
  congr 2
  show (if y < x then y else x) = min x y
  split <;> omega
theorem max2_lean (k k' : IntKind) (x y : Int) : Builtin.max2 (.int k x) (.int k' y) = pure (.int k (max x y)) := by
  simp only [Builtin.max2, gt_iff_lt]
  congr 2
  split <;> omega
theorem max_two (ats : Array TypeId) (ty : TypeId) (a b : Value) : Builtin.max_ ats ty #[a, b] = (Builtin.max2 a b >>= fun s => pure s) := by simp only [Builtin.max_, List.foldlM_cons, List.foldlM_nil]
theorem min_two (ats : Array TypeId) (ty : TypeId) (a b : Value) : Builtin.min_ ats ty #[a, b] = (Builtin.min2 a b >>= fun s => pure s) := by simp only [Builtin.min_, List.foldlM_cons, List.foldlM_nil]
end Go.Hp
