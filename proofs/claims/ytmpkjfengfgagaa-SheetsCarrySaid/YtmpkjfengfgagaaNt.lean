/- Nested things: a step at a place. Plain. -/
import Derived.Test.YtmpkjfengfgagaaKq
namespace Go.Hp
open Go.RowKit
variable {w W W' : World} {O A A' B B' C C' X X' : Own}
theorem Turns.at1 (h : Turns w W O (Own.both A X)) (t : Turns W W' X X') : Turns w W' O (Own.both A X') := h.trans (Turns.rightT h.now t)
theorem Turns.at0 (h : Turns w W O (Own.both A X)) (t : Turns W W' A A') : Turns w W' O (Own.both A' X) := h.trans (Turns.left h.now t)
theorem Turns.at2 (h : Turns w W O (Own.both A (Own.both B X))) (t : Turns W W' X X') : Turns w W' O (Own.both A (Own.both B X')) := h.at1 (Turns.rightT h.now.2.1 t)
theorem Turns.at10 (h : Turns w W O (Own.both A (Own.both B X))) (t : Turns W W' B B') : Turns w W' O (Own.both A (Own.both B' X)) := h.at1 (Turns.left h.now.2.1 t)
theorem Turns.at3 (h : Turns w W O (Own.both A (Own.both B (Own.both C X)))) (t : Turns W W' X X') : Turns w W' O (Own.both A (Own.both B (Own.both C X'))) := h.at2 (Turns.rightT h.now.2.1.2.1 t)
theorem Turns.at20 (h : Turns w W O (Own.both A (Own.both B (Own.both C X)))) (t : Turns W W' C C') : Turns w W' O (Own.both A (Own.both B (Own.both C' X))) := h.at2 (Turns.left h.now.2.1.2.1 t)
theorem Turns.pushT (h : Turns w W O X) (t : Turns W W' Own.emp A) : Turns w W' O (Own.both A X) := h.trans (Turns.add h.now t)
theorem Turns.push (h : Turns w W O X) (cs : Array Value) (T : TypeId) : Turns w (W.alloc (.cells cs T)) O (Own.both (Own.blk W.heap.size cs T) X) := h.pushT (Turns.blk_new W cs T)
theorem Turns.pushNil (h : Turns w W O X) (E : TypeId) (size : Nat) : Turns w W O (Own.both (Own.row E size (.slice none 0 0) 0 []) X) :=
  h.pushT ⟨Chg.refl _ _, World.ownsRow_nil _ _ _ _, fun b hb => by cases hb⟩
theorem Turns.n0 (h : Turns w W O (Own.both A X)) : A.holds W := h.now.1
theorem Turns.n1 (h : Turns w W O (Own.both A X)) : X.holds W := h.now.2.1
theorem Turns.n10 (h : Turns w W O (Own.both A (Own.both B X))) : B.holds W := h.now.2.1.1
theorem Turns.n11 (h : Turns w W O (Own.both A (Own.both B X))) : X.holds W := h.now.2.1.2.1
theorem Turns.n110 (h : Turns w W O (Own.both A (Own.both B (Own.both C X)))) : C.holds W := h.now.2.1.2.1.1
theorem Turns.n111 (h : Turns w W O (Own.both A (Own.both B (Own.both C X)))) : X.holds W := h.now.2.1.2.1.2.1
theorem Turns.b0 {g : Nat} {cs : Array Value} {T : TypeId} (h : Turns w W O (Own.both (Own.blk g cs T) X)) : Blk W g cs T := h.now.1
theorem Turns.b10 {g : Nat} {cs : Array Value} {T : TypeId} (h : Turns w W O (Own.both A (Own.both (Own.blk g cs T) X))) : Blk W g cs T := h.now.2.1.1
theorem Turns.b110 {g : Nat} {cs : Array Value} {T : TypeId} (h : Turns w W O (Own.both A (Own.both B (Own.both (Own.blk g cs T) X)))) : Blk W g cs T := h.now.2.1.2.1.1
theorem Turns.put0 {g : Nat} {cs : Array Value} {T : TypeId} (h : Turns w W O (Own.both (Own.blk g cs T) X)) (o : Nat) (v : Value) : Turns w (W.setCell ⟨g, o, none⟩ v) O (Own.both (Own.blk g (cs.setIfInBounds o v) T) X) := h.at0 (Turns.blk_set h.now.1 o v)
theorem Turns.put10 {g : Nat} {cs : Array Value} {T : TypeId} (h : Turns w W O (Own.both A (Own.both (Own.blk g cs T) X))) (o : Nat) (v : Value) : Turns w (W.setCell ⟨g, o, none⟩ v) O (Own.both A (Own.both (Own.blk g (cs.setIfInBounds o v) T) X)) := h.at10 (Turns.blk_set h.now.2.1.1 o v)
theorem Turns.drop1 (h : Turns w W O (Own.both A (Own.both B X))) : Turns w W O (Own.both A X) :=
  ⟨h.chg, ⟨h.now.1, h.now.2.1.2.1, fun b h1 h2 => h.now.2.2 b h1 (Or.inr h2)⟩, fun b hb => h.near b (hb.elim Or.inl (fun h2 => Or.inr (Or.inr h2)))⟩
/-- The second of two in front is put first. -/
theorem Turns.flip (h : Turns w W O (Own.both A (Own.both B X))) : Turns w W O (Own.both B (Own.both A X)) :=
  ⟨h.chg, ⟨h.now.2.1.1, ⟨h.now.1, h.now.2.1.2.1, fun b h1 h2 => h.now.2.2 b h1 (Or.inr h2)⟩, fun b h1 h2 => h2.elim (fun h3 => h.now.2.2 b h3 (Or.inl h1)) (fun h3 => h.now.2.1.2.2 b h1 h3)⟩,
    fun b hb => h.near b (hb.elim (fun h1 => Or.inr (Or.inl h1)) (fun h1 => h1.elim Or.inl (fun h2 => Or.inr (Or.inr h2))))⟩
theorem Blk.three {w : World} {b : Nat} {a0 a1 a2 : Value} {T : TypeId} (h : Blk w b #[a0, a1, a2] T) :
    w.cell? ⟨b, 0, none⟩ = some a0 ∧ w.cell? ⟨b, 1, none⟩ = some a1 ∧ w.cell? ⟨b, 2, none⟩ = some a2 ∧
    w.frozen? ⟨b, 0, none⟩ = false ∧ w.frozen? ⟨b, 1, none⟩ = false ∧ w.frozen? ⟨b, 2, none⟩ = false ∧ b < w.heap.size :=
  ⟨h.cell 0, h.cell 1, h.cell 2, h.frozen 0, h.frozen 1, h.frozen 2, h.lt⟩
end Go.Hp
