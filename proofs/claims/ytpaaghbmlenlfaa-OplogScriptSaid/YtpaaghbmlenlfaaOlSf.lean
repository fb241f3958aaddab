/- Ranges over a log that gather its entries in a list: what a round keeps. -/
import Derived.Test.YtpaaghbmlenlfaaOlSc
import Derived.OwnWalkIn
namespace Go.Proofs.Ytpaaghbmlenlfaa.Ol
open Go.Shelf
open Go.Hp.M7
open Go.RowKit Go.Hp
attribute [local go_sem] min2_lean min_two max2_lean max_two
set_option linter.unusedSimpArgs false
set_option linter.unusedVariables false
set_option maxRecDepth 100000
attribute [local go_sem] Oper.semAt_some run_func_eq
/-- One element of several cells behind a row, inside a fence. -/
theorem wpListIn_app1M {P : Program} {F : Fence} {nF : Nat} {w : World} {ops : Array Oper} {rest : List Oper} {o : Oper} {a : Act} {Q : Exit → Act → World → Prop} (hgd : o.guard = none) (s x : Operand) (t : TypeId)
    (ho : o.op = .call { callee := .builtin .append, args := #[s, x], argTypes := #[t, t] })
    (e : TypeId) (i : TypeInfo) (z : Value) (size bytes : Nat) (ht : P.underlying t = some (.slice e)) (hi : P.info? e = some i) (hz : i.zero = some z)
    (hsize : i.size = size) (hby : i.bytes = bytes) (hzs : z.cells.size = size) (hsz : 0 < size)
    (v : Value) (n : Nat) (xs : List Value) (hs : a.eval s = v) (cs : Array Value) (T : TypeId) (b0 : Nat) (hx : a.eval x = .slice (some ⟨b0, 0, none⟩) 1 1) (hb0 : b0 = w.heap.size) (hown : w.ownsRow 0 e size v n xs)
    (hcs : cs.size = size) (h1 : ∀ u ∈ cs.toList, u.oneCell' = true) (h63 : n + 1 ≤ maxLen) (hbytes : (n + 1) * bytes ≤ 140737488355328)
    (h : ∀ g c w', n + 1 ≤ c → Turns w w' (Hp.Own.row e size v n xs) (Hp.Own.row e size (.slice (some ⟨g, 0, none⟩) (n + 1) c) (n + 1) (xs ++ cs.toList)) → wpListIn F nF P ops Q rest (a.put o.dst (.slice (some ⟨g, 0, none⟩) (n + 1) c)) w') :
    wpListIn F nF P ops Q (o :: rest) a (w.alloc (.cells cs T)) := by
  subst hb0
  have hT : Turns w (w.alloc (.cells cs T)) (Hp.Own.row e size v n xs) (Hp.Own.row e size v n xs) := Turns.alloc (Turns.refl (O := Hp.Own.row e size v n xs) hown) _
  obtain ⟨v', w', hr, h2, h3, _, h5⟩ := run_append_own_at (P := P) (w.alloc (.cells cs T)) 0 t o.type e i z size bytes ht hi hz hsize hby hzs hsz v n xs hT.now ⟨w.heap.size, 0, none⟩ 1 1 cs.toList (by simp [hcs]) (by
    intro j u hj
    have ha : (⟨w.heap.size, 0, none⟩ : Addr).add j = ⟨w.heap.size, j, none⟩ := by unfold Addr.add; split <;> simp_all
    rw [ha, (Blk.new w cs T).cell]
    simpa using hj) h1 h63 hbytes (Nat.zero_le _)
  obtain ⟨g, c, rfl, _, hc⟩ := row_form h2 (by omega)
  have hk := h g c w' hc (hT.trans (Turns.row h2 h3 h5))
  refine wpListIn_plain hgd fun K hK => ?_
  unfold Oper.wpIn
  refine ⟨by simp [Oper.about, ho, resolve, Target.leads, Sem.run_pure], ?_⟩
  rw [Oper.semAt_plain F _ _ (by rw [ho]; intro c hc'; cases hc')]
  simp only [execOp, ho, resolve, invoke, builtin, Sem.run_bind, Sem.run_pure, Result.andThen_ok, List.map_toArray, List.map_cons, List.map_nil, hs, hx, hr]
  exact hK _ _ hk
theorem turn_emp (w : World) : Turns w w Hp.Own.emp Hp.Own.emp := Turns.refl trivial
theorem _root_.Go.Hp.Turns.swp {w W : World} {O A B C X : Hp.Own} (h : Turns w W O (Hp.Own.both A (Hp.Own.both B (Hp.Own.both C X)))) : Turns w W O (Hp.Own.both A (Hp.Own.both C (Hp.Own.both B X))) := h.at1 (Turns.refl h.n1).flip
/-- What is gathered: the box of the list, the list, other boxes. -/
abbrev oB (b : Nat) (V : Value) (m : Nat) (zs : List En) (B : Hp.Own) : Hp.Own := Hp.Own.both (Hp.Own.blk b #[V] 52) (Hp.Own.both (Hp.Own.row 51 7 V m (flat zs)) B)
theorem celled_oB {b : Nat} {V : Value} {m : Nat} {zs : List En} {B : Hp.Own} (hB : Celled B) : Celled (oB b V m zs B) := celled_both (celled_blk _ _ _) (celled_both (celled_row _ _ _ _ _) hB)
theorem pts_oB {b : Nat} {V : Value} {m : Nat} {zs : List En} {B : Hp.Own} {W : World} (h : (oB b V m zs B).holds W) (x : Nat) : pts W ⟨b, 0, none⟩ x ↔ V.ownBlock = some x := by
  have c0 : W.cell? ⟨b, 0, none⟩ = some V := h.1.cell 0
  unfold pts
  rw [c0]
  constructor
  · rintro ⟨ad, k, c, e, rfl⟩
    cases e
    rfl
  · intro hb
    rcases h.2.1.1.2 with ⟨hv, _⟩ | ⟨g, cap, cur, hv, _⟩
    · rw [hv] at hb; cases hb
    · rw [hv] at hb ⊢
      cases hb
      exact ⟨_, _, _, rfl, rfl⟩
theorem oB_pts {b : Nat} {V : Value} {m : Nat} {zs : List En} {B : Hp.Own} {W : World} (h : (oB b V m zs B).holds W) (x : Nat) (hp : pts W ⟨b, 0, none⟩ x) : x < W.heap.size :=
  Hp.Own.lt _ h.2.1.1 x ((pts_oB h x).1 hp)
theorem oB_kept {n b : Nat} {V V' : Value} {m m' : Nat} {zs zs' : List En} {B : Hp.Own} {W W' : World} (h : (oB b V m zs B).holds W) (t : Turns W W' (oB b V m zs B) (oB b V' m' zs' B)) (hb : b < n) (hB : ∀ x, B.foot x → x < n) (hc : Celled B) :
    KeepsFrom n W W' ∧ Kpt n ⟨b, 0, none⟩ W W' := by
  refine ⟨keeps_turns (celled_oB hc) h t, t.chg.size, fun x cs T hn hk hp => hk.chg t.chg (fun hf => ?_), fun x hx => ?_⟩
  · rcases hf with hf | hf | hf
    · have hf : x = b := hf; omega
    · exact hp ((pts_oB h x).2 hf)
    · have := hB x hf; omega
  · have hx := (pts_oB t.now x).1 hx
    rcases t.near x (Or.inr (Or.inl hx)) with hf | hf
    · rcases hf with hf | hf | hf
      · exact absurd (show x = b from hf) (fun e => t.now.2.2 b rfl (Or.inl (by rw [← e]; exact hx)))
      · exact Or.inl ((pts_oB h x).2 hf)
      · exact absurd hf (fun hf => t.now.2.1.2.2 x hx hf)
    · exact Or.inr hf
/-- The box of a loop's variable, newer than the loop, apart from the list. -/
def Vb (n b : Nat) (W : World) (Bx : Nat) (cs : Array Value) (T : TypeId) : Prop := n ≤ Bx ∧ ¬ pts W ⟨b, 0, none⟩ Bx ∧ Blk W Bx cs T
theorem Vb.keep {n b : Nat} {X Y : World} {Bx : Nat} {cs : Array Value} {T : TypeId} {row : Option Nat} (h : Vb n b X Bx cs T) (hb : b < n) (hbX : b < X.heap.size) (hg : X.grownBy Y row) (hr : ∀ r, row = some r → n ≤ r ∧ ∃ o : Obj, X.heap[r]? = some o ∧ o.isCells = false) : Vb n b Y Bx cs T := by
  obtain ⟨h1, h2, h3⟩ := h
  refine ⟨h1, fun hp => h2 (pts_of_block (hg.block b hbX (fun e => by have := (hr b e.symm).1; omega)) Bx hp), ?_⟩
  unfold Blk at *
  rw [hg.block Bx (Blk.lt h3) (fun e => by
    obtain ⟨o, a1, a2⟩ := (hr Bx e.symm).2
    rw [h3] at a1
    cases a1
    cases a2)]
  exact h3
/-- What From gathers, of what was given so far. -/
def frS (h : Prop) [Decidable h] (op most : Int) (zs : List En) (x : Int × En) : List En := if h ∧ op ≤ x.1 ∧ (zs.length : Int) < most then zs ++ [x.2] else zs
def frL (h : Prop) [Decidable h] (op most : Int) (xs : List (Int × En)) : List En := xs.foldl (frS h op most) []
theorem frL_next (h : Prop) [Decidable h] (op most : Int) (xs : List (Int × En)) (x : Int × En) : frL h op most (xs ++ [x]) = frS h op most (frL h op most xs) x := by simp [frL]
theorem frL_len (h : Prop) [Decidable h] (op most : Int) (xs : List (Int × En)) : (frL h op most xs).length ≤ xs.length := by
  have key : ∀ (l : List (Int × En)) (zs : List En), (l.foldl (frS h op most) zs).length ≤ zs.length + l.length := by
    intro l
    induction l with
    | nil => intro zs; simp
    | cons x l ih =>
      intro zs
      rw [List.foldl_cons, List.length_cons]
      refine Nat.le_trans (ih _) ?_
      unfold frS
      split <;> simp <;> omega
  simpa [frL] using key xs []
end Go.Proofs.Ytpaaghbmlenlfaa.Ol
