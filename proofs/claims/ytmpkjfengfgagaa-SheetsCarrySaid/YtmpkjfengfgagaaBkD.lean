/- Package sheets: a book and what stands (data, shared pieces); the tree of stamps. -/
import Derived.Test.YtmpkjfengfgagaaBkC
namespace Go.Proofs.Ytmpkjfengfgagaa.Bk
open Go.RowKit Go.Hp
attribute [local go_sem] min2_lean min_two max2_lean max_two
set_option linter.unusedSimpArgs false
set_option linter.unusedVariables false
set_option maxRecDepth 100000
/-- What stands: bytes, pieces that are shared. -/
structure Pool where
  S : List (Value × List UInt8)
  Q : List (Nat × Array Value)
theorem lt_blk {w : World} {ad : Addr} {u : Value} (h : w.cell? ad = some u) : ad.block < w.heap.size := by
  rcases Nat.lt_or_ge ad.block w.heap.size with hlt | hge
  · exact hlt
  · have h1 : w.heap[ad.block]? = none := Array.getElem?_eq_none hge
    simp [World.cell?, h1] at h
def Pool.own (P : Pool) : Hp.Own :=
  ⟨fun b => (∃ s ∈ P.S, s.1.ownBlock = some b) ∨ ∃ q ∈ P.Q, q.1 = b,
    fun w => (∀ s ∈ P.S, Byt w s.1 s.2 ∧ ∀ b, s.1.ownBlock = some b → ∃ cs fr, w.heap[b]? = some (.cells cs 5 fr)) ∧ ∀ q ∈ P.Q, Blk w q.1 q.2 142,
    fun h hb => ⟨fun s hs => ⟨Src.stay (h.1 s hs).1 fun b hf => hb b (Or.inl ⟨s, hs, hf⟩), fun b hf => by rw [hb b (Or.inl ⟨s, hs, hf⟩)]; exact (h.1 s hs).2 b hf⟩,
      fun q hq => by have := h.2 q hq; unfold Blk at *; rw [hb q.1 (Or.inr ⟨q, hq, rfl⟩)]; exact this⟩,
    fun h b hb => hb.elim (fun ⟨s, hs, hf⟩ => by obtain ⟨cs, fr, e⟩ := (h.1 s hs).2 b hf; exact (Array.getElem?_eq_some_iff.1 e).1) (fun ⟨q, hq, e⟩ => e ▸ Blk.lt (h.2 q hq))⟩
/-- More data stands. -/
def Pool.add (P : Pool) (v : Value) (l : List UInt8) : Pool := ⟨P.S ++ [(v, l)], P.Q⟩
theorem Pool.turn_add {P : Pool} {w W : World} {O X : Hp.Own} {A : Option Addr} {n c : Nat} {l : List UInt8} (h : Turns w W O (Hp.Own.both (Hp.Own.row 5 1 (.slice A n c) n (l.map bv)) (Hp.Own.both P.own X))) (hl : l.length = n) :
    Turns w W O (Hp.Own.both (P.add (.slice A n c) l).own X) := by
  have hr : W.ownsRow 0 5 1 (.slice A n c) n (l.map bv) := h.n0
  refine ⟨h.chg, ⟨⟨fun s hs => ?_, h.now.2.1.1.2⟩, h.now.2.1.2.1, fun b h1 h2 => ?_⟩, fun b hb => h.near b ?_⟩
  · rcases List.mem_append.1 hs with hs | hs
    · exact h.now.2.1.1.1 s hs
    · rw [List.mem_singleton.1 hs]
      refine ⟨?_, fun b hb => ?_⟩
      · have := Src.of_own hr
        rw [← hl] at this ⊢
        exact this
      · rcases hr.2 with ⟨hv, _⟩ | ⟨g, cap, cur, hv, _, hg, _⟩
        · rw [hv] at hb; cases hb
        · rw [hv] at hb
          cases hb
          exact ⟨_, _, hg⟩
  · rcases h1 with ⟨s, hs, hf⟩ | hq
    · rcases List.mem_append.1 hs with hs | hs
      · exact h.now.2.1.2.2 b (Or.inl ⟨s, hs, hf⟩) h2
      · rw [List.mem_singleton.1 hs] at hf
        exact h.now.2.2 b hf (Or.inr h2)
    · exact h.now.2.1.2.2 b (Or.inr hq) h2
  · rcases hb with (⟨s, hs, hf⟩ | hq) | hb
    · rcases List.mem_append.1 hs with hs | hs
      · exact Or.inr (Or.inl (Or.inl ⟨s, hs, hf⟩))
      · rw [List.mem_singleton.1 hs] at hf
        exact Or.inl hf
    · exact Or.inr (Or.inl (Or.inr hq))
    · exact Or.inr (Or.inr hb)
/-- The stamps' tree. -/
structure Tree (wd : Nat) (tp : Nat → Int) (at_ : Nat → Int) : Prop where
  leaf : ∀ i, i < wd → tp (wd + i) = at_ i
  node : ∀ i, 1 ≤ i → i < wd → tp i = max (tp (2 * i)) (tp (2 * i + 1))
/-- The tree, but for the nodes above one. -/
structure TreeB (wd : Nat) (tp : Nat → Int) (at_ : Nat → Int) (x : Nat) : Prop where
  leaf : ∀ i, i < wd → tp (wd + i) = at_ i
  node : ∀ i, 1 ≤ i → i < wd → (∀ e, x / 2 ^ e ≠ i) → tp i = max (tp (2 * i)) (tp (2 * i + 1))
theorem Tree.put {wd : Nat} {tp at_ : Nat → Int} (h : Tree wd tp at_) {u : Nat} (hu : u < wd) (v : Int) : TreeB wd (fun j => if j = wd + u then v else tp j) (fun j => if j = u then v else at_ j) ((wd + u) / 2) := by
  refine ⟨fun i hi => ?_, fun i h1 h2 hx => ?_⟩
  · by_cases e : i = u
    · subst e; simp
    · have : wd + i ≠ wd + u := by omega
      simp [this, e, h.leaf i hi]
  · have a1 : i ≠ wd + u := by omega
    have a2 : 2 * i ≠ wd + u := fun e => hx 0 (by simp; omega)
    have a3 : 2 * i + 1 ≠ wd + u := fun e => hx 0 (by simp; omega)
    simp only [if_neg a1, if_neg a2, if_neg a3]
    exact h.node i h1 h2
theorem TreeB.up {wd : Nat} {tp at_ : Nat → Int} {x : Nat} (h : TreeB wd tp at_ x) (h1 : 1 ≤ x) (h2 : x < wd) : TreeB wd (fun j => if j = x then max (tp (2 * x)) (tp (2 * x + 1)) else tp j) at_ (x / 2) := by
  refine ⟨fun i hi => ?_, fun i g1 g2 hx => ?_⟩
  · have : wd + i ≠ x := by omega
    simp only [if_neg this]
    exact h.leaf i hi
  · by_cases e : i = x
    · subst e
      have a2 : 2 * i ≠ i := by omega
      have a3 : 2 * i + 1 ≠ i := by omega
      show (if i = i then _ else _) = max (if 2 * i = i then _ else _) (if 2 * i + 1 = i then _ else _)
      rw [if_pos rfl, if_neg a2, if_neg a3]
    · have a2 : 2 * i ≠ x := fun e => hx 0 (by simp; omega)
      have a3 : 2 * i + 1 ≠ x := fun e => hx 0 (by simp; omega)
      simp only [if_neg e, if_neg a2, if_neg a3]
      refine h.node i g1 g2 (fun e' he => ?_)
      cases e' with
      | zero => simp at he; omega
      | succ e' =>
        refine hx e' ?_
        rw [Nat.pow_succ, Nat.mul_comm, ← Nat.div_div_eq_div_mul] at he
        exact he
theorem TreeB.done {wd : Nat} {tp at_ : Nat → Int} (h : TreeB wd tp at_ 0) : Tree wd tp at_ := ⟨h.leaf, fun i h1 h2 => h.node i h1 h2 (fun e he => by rw [Nat.zero_div] at he; omega)⟩
theorem Tree.zero (wd : Nat) : Tree wd (fun _ => 0) (fun _ => 0) := ⟨fun _ _ => rfl, fun _ _ _ => rfl⟩
/-- A book that may be, beside what stands; db is what its sheets read as. -/
structure Bk.Ok (P : Pool) (b : Bk) (db : Nat → List UInt8) : Prop where
  n1 : 1 ≤ b.n
  n64 : b.n ≤ 64
  wd : b.wd = wdF b.n
  sh : ∀ k, k < 8 → b.ow k = false → (b.pc k, pcC b.at_ b.dv k) ∈ P.Q
  dt : ∀ i, i < 64 → (b.dv i, db i) ∈ P.S
  tr : Tree b.wd b.tp b.at_
  a0 : ∀ i, 0 ≤ b.at_ i ∧ b.at_ i ≤ 1099511627776
  ln : ∀ i, (db i).length ≤ 2304
  hi : ∀ i, b.n ≤ i → b.at_ i = 0
  one : ∀ i, (b.dv i).oneCell' = true
theorem wdF_rng {n : Nat} (h1 : 1 ≤ n) (h2 : n ≤ 64) : n ≤ wdF n ∧ wdF n ≤ 64 ∧ 1 ≤ wdF n := by
  unfold wdF
  repeat' split
  all_goals omega
end Go.Proofs.Ytmpkjfengfgagaa.Bk
