/- OplogRange: the things that a range works on. -/
import Derived.Test.YtpaaghbmlenlfaaOlAb
import Derived.Test.YtpaaghbmlenlfaaOlIt
import Derived.Test.YtpaaghbmlenlfaaKq
import Derived.Test.YtpaaghbmlenlfaaRi
namespace Go.Proofs.Ytpaaghbmlenlfaa.Ol
open Go.RowKit Go.Hp
attribute [local go_sem] min2_lean min_two max2_lean max_two
set_option linter.unusedSimpArgs false
set_option linter.unusedVariables false
set_option maxRecDepth 100000
theorem all_any (g : Nat) (w : World) : Calls Try.prog 29 #[.pointer (some ⟨g, 0, none⟩)] w fun r w' => r = .returned (.func (.func 48) #[] #[.pointer (some ⟨w.heap.size, 0, none⟩)]) ∧ w' = w.alloc (.cells #[.pointer (some ⟨g, 0, none⟩)] 44) := by
  go_enter Try.func29, Try.ntmps29
  go_wp2_with fail
  go_ret
  exact ⟨rfl, rfl⟩
theorem und63 : ∃ a b c, Try.prog.underlying 63 = some (.func a b c) := ⟨_, _, _, rfl⟩
theorem run_func_eq (f : Fn) (a c : Array Value) (W : World) : Sem.run Try.prog (binOp BinOp.eql 63 (.func f a c) .nilFunc) W = .ok (.bool false) W := by
  obtain ⟨x, y, z, hu⟩ := und63
  have h : ∀ d, Sem.run Try.prog (Op.equalIn (d + 1) 63 (.func f a c) .nilFunc) W = .ok false W := by
    intro d
    rw [Op.equalIn]
    simp only [Sem.run_bind, run_underlying hu, Result.andThen_ok]
    rfl
  simp only [binOp]
  go_simp
  unfold Op.equal
  rw [show Op.maxDepth = (Op.maxDepth - 1) + 1 from rfl, h]
  rfl
inductive RI where
  | x
  | y
  | o (j : Nat)
  deriving DecidableEq
/-- Both logs, and what else there is. -/
def fam (gx pbx gy m : Nat) (Ax Ay : Ab) (v : Value) (R : Nat → Hp.Own) : RI → Hp.Own
  | .x => pO gx pbx m Ax
  | .y => qO gy m v Ay
  | .o j => R j
abbrev fO (gx pbx gy m : Nat) (Ax Ay : Ab) (v : Value) (R : Nat → Hp.Own) : Hp.Own := Hp.Own.fam (fam gx pbx gy m Ax Ay v R)
section
variable {gx pbx gy m : Nat} {Ax Ay : Ab} {v : Value} {R : Nat → Hp.Own} {w w' : World}
theorem fO_x {A' : Ab} (h : (fO gx pbx gy m Ax Ay v R).holds w) (t : Turns w w' (pO gx pbx m Ax) (pO gx pbx m A')) : Turns w w' (fO gx pbx gy m Ax Ay v R) (fO gx pbx gy m A' Ay v R) := by
  have := Turns.famE h .x rfl t
  rwa [show upd (fam gx pbx gy m Ax Ay v R) .x (pO gx pbx m A') = fam gx pbx gy m A' Ay v R from by funext i; cases i <;> simp [upd, fam]] at this
theorem fO_y {A' : Ab} {v' : Value} (h : (fO gx pbx gy m Ax Ay v R).holds w) (t : Turns w w' (qO gy m v Ay) (qO gy m v' A')) : Turns w w' (fO gx pbx gy m Ax Ay v R) (fO gx pbx gy m Ax A' v' R) := by
  have := Turns.famE h .y rfl t
  rwa [show upd (fam gx pbx gy m Ax Ay v R) .y (qO gy m v' A') = fam gx pbx gy m Ax A' v' R from by funext i; cases i <;> simp [upd, fam]] at this
theorem fO_o (j : Nat) {O' : Hp.Own} (h : (fO gx pbx gy m Ax Ay v R).holds w) (t : Turns w w' (R j) O') : Turns w w' (fO gx pbx gy m Ax Ay v R) (fO gx pbx gy m Ax Ay v (upd R j O')) := by
  have := Turns.famE h (.o j) rfl t
  rwa [show upd (fam gx pbx gy m Ax Ay v R) (.o j) O' = fam gx pbx gy m Ax Ay v (upd R j O') from by funext i; cases i <;> simp [upd, fam]] at this
theorem fO_new {W : World} {O : Hp.Own} (j : Nat) (hj : R j = Hp.Own.emp) {O' : Hp.Own} (h : Turns w W O (fO gx pbx gy m Ax Ay v R)) (t : Turns W w' Hp.Own.emp O') : Turns w w' O (fO gx pbx gy m Ax Ay v (upd R j O')) :=
  h.trans (fO_o j h.now (by rw [hj]; exact t))
theorem fO_hx (h : (fO gx pbx gy m Ax Ay v R).holds w) : (pO gx pbx m Ax).holds w := h.1 .x
theorem fO_hy (h : (fO gx pbx gy m Ax Ay v R).holds w) : (qO gy m v Ay).holds w := h.1 .y
theorem fO_ho (j : Nat) (h : (fO gx pbx gy m Ax Ay v R).holds w) : (R j).holds w := h.1 (.o j)
theorem fAdd (A : Ab) (e : En) (w : World) (h : (fO gx pbx gy m A Ay v R).holds w) :
    Calls Try.prog 22 #[.pointer (some ⟨gx, 0, none⟩), .agg e.cells.toArray] w fun r w' => r = .returned (.int .i64 (aAdd m A e).1) ∧ Turns w w' (fO gx pbx gy m A Ay v R) (fO gx pbx gy m (aAdd m A e).2 Ay v R) :=
  (pAdd gx pbx m A e w (fO_hx h)).mono fun r w' hr => ⟨hr.1, fO_x h hr.2⟩
theorem fCut (A : Ab) (op : Int) (w : World) (h : (fO gx pbx gy m A Ay v R).holds w) :
    Calls Try.prog 23 #[.pointer (some ⟨gx, 0, none⟩), .int .i64 op] w fun r w' => r = .returned (.int .i64 (aCut A op).1) ∧ Turns w w' (fO gx pbx gy m A Ay v R) (fO gx pbx gy m (aCut A op).2 Ay v R) :=
  (pCut gx pbx m A op w (fO_hx h)).mono fun r w' hr => ⟨hr.1, fO_x h hr.2⟩
theorem fReset (A : Ab) (b' : Int) (ls : List En) (A' : Option Addr) (k c' : Nat) (w : World) (h : (fO gx pbx gy m A Ay v R).holds w) (hk : ls.length = k) (hsrc : EnS w A' ls) (hfar : ∀ b off, A' = some ⟨b, off, none⟩ → 0 < ls.length → ¬ (fO gx pbx gy m A Ay v R).foot b) (hl : k ≤ 1152921504606846976) :
    Calls Try.prog 34 #[.pointer (some ⟨gx, 0, none⟩), .int .i64 b', .slice A' k c'] w fun r w' => r = .returned (.int .i64 (aReset m A b' ls).1) ∧ Turns w w' (fO gx pbx gy m A Ay v R) (fO gx pbx gy m (aReset m A b' ls).2 Ay v R) := by
  subst hk
  exact (pReset gx pbx m A b' _ ls A' c' w (fO_hx h) rfl hsrc (fun b off ha h0 hb => hfar b off ha h0 ⟨.x, hb⟩) hl).mono fun r w' hr => ⟨hr.1, fO_x h hr.2⟩
theorem gAdd (A : Ab) (hA : A.Ok m) (e : En) (w : World) (h : (fO gx pbx gy m Ax A v R).holds w) :
    Calls Try.prog 30 #[.pointer (some ⟨gy, 0, none⟩), .agg e.cells.toArray] w fun r w' => r = .returned (.int .i64 (aAdd m A e).1) ∧ ∃ v', Turns w w' (fO gx pbx gy m Ax A v R) (fO gx pbx gy m Ax (aAdd m A e).2 v' R) :=
  (rAdd gy m v A e w (fO_hy h) hA).mono fun r w' hr => ⟨hr.1, hr.2.elim fun v' t => ⟨v', fO_y h t⟩⟩
theorem gCut (A : Ab) (hA : A.Ok m) (op : Int) (w : World) (h : (fO gx pbx gy m Ax A v R).holds w) :
    Calls Try.prog 33 #[.pointer (some ⟨gy, 0, none⟩), .int .i64 op] w fun r w' => r = .returned (.int .i64 (aCut A op).1) ∧ ∃ v', Turns w w' (fO gx pbx gy m Ax A v R) (fO gx pbx gy m Ax (aCut A op).2 v' R) :=
  (rCut gy m v A op w (fO_hy h) hA).mono fun r w' hr => ⟨hr.1, hr.2.elim fun v' t => ⟨v', fO_y h t⟩⟩
theorem gReset (A : Ab) (hA : A.Ok m) (b' : Int) (ls : List En) (A' : Option Addr) (k c' : Nat) (w : World) (h : (fO gx pbx gy m Ax A v R).holds w) (hk : ls.length = k) (hsrc : EnS w A' ls) (hl : k ≤ 1152921504606846976) :
    Calls Try.prog 35 #[.pointer (some ⟨gy, 0, none⟩), .int .i64 b', .slice A' k c'] w fun r w' => r = .returned (.int .i64 (aReset m A b' ls).1) ∧ ∃ v', Turns w w' (fO gx pbx gy m Ax A v R) (fO gx pbx gy m Ax (aReset m A b' ls).2 v' R) := by
  subst hk
  exact (rReset gy m v A b' _ ls A' c' w (fO_hy h) hA rfl hsrc hl).mono fun r w' hr => ⟨hr.1, hr.2.elim fun v' t => ⟨v', fO_y h t⟩⟩
end
/-- What All gives, by what the log says. -/
def upA (A : Ab) (k : Nat) : List (Int × En) := (List.range k).map fun (j : Nat) => (A.1 + 1 + (j : Int), A.2.getD j default)
theorem upA_succ (A : Ab) (k : Nat) : upA A (k + 1) = upA A k ++ [(A.1 + 1 + (k : Int), A.2.getD k default)] := by simp [upA, List.range_succ]
theorem upA_len (A : Ab) (k : Nat) : (upA A k).length = k := by simp [upA]
theorem all_seq (g pb m : Nat) (A : Ab) (bx n d : Nat) (a : Addr) (w : World) (hn : n ≤ w.heap.size) (hab : a.block < w.heap.size) (hp : ∀ b, pts w a b → b < w.heap.size) (hbx : bx < w.heap.size)
    (hc : w.cell? ⟨bx, 0, none⟩ = some (.pointer (some ⟨g, 0, none⟩))) (hs : (pO g pb m A).holds w) (hd : 1 ≤ d) :
    SeqStopsK Fence.wide d Try.prog 48 #[.pointer (some ⟨bx, 0, none⟩)] encE (Kpt n a) (fun xs => xs = upA A A.2.length) (fun pre => pre <+: upA A A.2.length) A.2.length w := by
  obtain ⟨s, h1, h2⟩ := hs
  have := all_stops s bx n d a w hn hab hp hbx (by rw [h1.g]; exact hc) h2 h1.ok hd
  rw [h1.many] at this
  have e : upTo s A.2.length = upA A A.2.length := by unfold upTo upA; rw [h1.l, h1.b]
  rw [e] at this
  exact this
/-- What lies in cells stays where other blocks turn. -/
def Celled (O : Hp.Own) : Prop := ∀ w, O.holds w → ∀ b, O.foot b → ∃ cs T, Blk w b cs T
theorem celled_emp : Celled Hp.Own.emp := fun _ _ _ h => h.elim
theorem celled_blk (g : Nat) (cs : Array Value) (T : TypeId) : Celled (Hp.Own.blk g cs T) := fun w h b hb => by cases hb; exact ⟨_, _, h⟩
theorem celled_row (E : TypeId) (s : Nat) (v : Value) (n : Nat) (xs : List Value) : Celled (Hp.Own.row E s v n xs) := fun w h b hb => by
  rcases h.2 with ⟨hv, _⟩ | ⟨g, cap, cur, hv, _, hg, _⟩
  · have hb : v.ownBlock = some b := hb; rw [hv] at hb; cases hb
  · have hb : v.ownBlock = some b := hb
    rw [hv] at hb
    cases hb
    exact ⟨_, _, hg⟩
theorem celled_both {A B : Hp.Own} (hA : Celled A) (hB : Celled B) : Celled (Hp.Own.both A B) := fun w h b hb => hb.elim (hA w h.1 b) (hB w h.2.1 b)
theorem celled_pO (g pb m : Nat) (A : Ab) : Celled (pO g pb m A) := fun w h b hb => by
  obtain ⟨s, h1, h2⟩ := h
  rcases hb with rfl | rfl
  · exact ⟨_, _, by rw [← h1.g]; exact h2.1⟩
  · exact ⟨_, _, by rw [← h1.pb]; exact h2.2.1⟩
theorem celled_fam {ι : Type} {F : ι → Hp.Own} (h : ∀ i, Celled (F i)) : Celled (Hp.Own.fam F) := fun w hw b hb => by
  obtain ⟨i, hi⟩ := hb
  exact h i w (hw.1 i) b hi
theorem celled_fO (gx pbx gy m : Nat) (Ax Ay : Ab) (v : Value) (R : Nat → Hp.Own) (h : ∀ j, Celled (R j)) : Celled (fO gx pbx gy m Ax Ay v R) := celled_fam fun i => by
  cases i with
  | x => exact celled_pO _ _ _ _
  | y => exact celled_both (celled_blk _ _ _) (celled_row _ _ _ _ _)
  | o j => exact h j
theorem Celled.keep {O : Hp.Own} (h : Celled O) {A B : World} {row : Option Nat} (ho : O.holds A) (hg : A.grownBy B row) (hr : ∀ r, row = some r → ∃ o : Obj, A.heap[r]? = some o ∧ o.isCells = false) : O.holds B :=
  O.stable ho fun b hb => by
    obtain ⟨cs, T, hc⟩ := h A ho b hb
    refine hg.block b (Blk.lt hc) (fun e => ?_)
    obtain ⟨o, h1, h2⟩ := hr b e.symm
    unfold Blk at hc
    rw [hc] at h1
    cases h1
    cases h2
/-- A round's change of both logs and of what is old is let. -/
theorem kpt_fO {gx pbx gy m n : Nat} {Ax Ay Ax' Ay' : Ab} {v v' : Value} {R R' : Nat → Hp.Own} {W W' : World} (t : Turns W W' (fO gx pbx gy m Ax Ay v R) (fO gx pbx gy m Ax' Ay' v' R')) (h : (fO gx pbx gy m Ax Ay v R).holds W)
    (hx : gx < n ∧ pbx < n ∧ gy < n) (hR : ∀ j b, (R j).foot b → b < n) (hRR : ∀ j b, (R j).foot b → (R' j).foot b) : Kpt n ⟨gy, 2, none⟩ W W' := by
  have hp : ∀ {Ax Ay v} {R : Nat → Hp.Own} {W : World} (_ : (fO gx pbx gy m Ax Ay v R).holds W) b, pts W ⟨gy, 2, none⟩ b ↔ v.ownBlock = some b := by
    intro Ax Ay v R W h b
    have hy := fO_hy h
    have c2 := (rO_cells hy).2.2
    unfold pts
    rw [c2]
    constructor
    · rintro ⟨ad, k, c, e, rfl⟩
      cases e
      rcases hy.2.1.2 with ⟨hv, _⟩ | ⟨g, cap, cur, hv, _⟩
      · cases hv
      · cases hv; rfl
    · intro hb
      rcases hy.2.1.2 with ⟨hv, _⟩ | ⟨g, cap, cur, hv, _⟩
      · rw [hv] at hb; cases hb
      · rw [hv] at hb; cases hb; exact ⟨_, _, _, by rw [hv], rfl⟩
  refine ⟨t.chg.size, fun b cs T hb hc hn => hc.chg t.chg (fun hf => ?_), fun b hb => ?_⟩
  · obtain ⟨i, hi⟩ := hf
    cases i with
    | x => rcases hi with rfl | rfl <;> omega
    | y =>
      rcases hi with hi | hi
      · have hi : b = gy := hi; omega
      · exact hn ((hp h b).2 hi)
    | o j => have := hR j b hi; omega
  · have hb' := (hp t.now b).1 hb
    have hf' : (qO gy m v' Ay').foot b := Or.inr hb'
    rcases t.near b ⟨.y, hf'⟩ with ⟨i, hi⟩ | hge
    · cases i with
      | x => exact absurd (t.now.2 .x .y b hi hf') (by simp)
      | y =>
        rcases hi with hi | hi
        · have hi : b = gy := hi
          subst hi
          exact ((fO_hy t.now).2.2 b rfl hb').elim
        · exact Or.inl ((hp h b).2 hi)
      | o j => exact absurd (t.now.2 (.o j) .y b (hRR j b hi) hf') (by simp)
    · exact Or.inr hge
/-- A block beside what turns. -/
structure Bes (z : Nat) (cs : Array Value) (T : TypeId) (W : World) (O : Hp.Own) : Prop where
  blk : Blk W z cs T
  far : ¬ O.foot z
theorem Bes.step {z : Nat} {cs : Array Value} {T : TypeId} {W W' : World} {O O' : Hp.Own} (h : Bes z cs T W O) (t : Turns W W' O O') : Bes z cs T W' O' :=
  ⟨h.blk.chg t.chg h.far, fun hf => (t.near z hf).elim h.far (fun hge => by have := h.blk.lt; omega)⟩
theorem Bes.new {W : World} {O : Hp.Own} (h : O.holds W) (cs : Array Value) (T : TypeId) : Bes W.heap.size cs T (W.alloc (.cells cs T)) O :=
  ⟨Blk.new _ _ _, fun hf => by have := O.lt h _ hf; omega⟩
theorem Bes.set {z : Nat} {cs : Array Value} {T : TypeId} {W : World} {O : Hp.Own} (h : Bes z cs T W O) (o : Nat) (v : Value) : Bes z (cs.setIfInBounds o v) T (W.setCell ⟨z, o, none⟩ v) O := ⟨h.blk.set o v, h.far⟩
theorem Turns.besSet {w W : World} {O O' : Hp.Own} {z : Nat} {cs : Array Value} {T : TypeId} (t : Turns w W O O') (h : Bes z cs T W O') (hz : w.heap.size ≤ z) (o : Nat) (v : Value) : Turns w (W.setCell ⟨z, o, none⟩ v) O O' :=
  ⟨Chg.set t.chg (p := ⟨z, o, none⟩) (Or.inl hz) v, O'.stable t.now fun b hb => Below.heap_setCell _ _ _ _ (fun e => h.far (by rw [← show b = z from e]; exact hb)), t.near⟩
theorem fO_raw {gx pbx gy m : Nat} {Ax Ay : Ab} {v : Value} {R : Nat → Hp.Own} {w : World} (j : Nat) (hj : R j = Hp.Own.emp) {A : Hp.Own} (h : (fO gx pbx gy m Ax Ay v R).holds w) (hA : A.holds w) (hd : ∀ b, A.foot b → ¬ (fO gx pbx gy m Ax Ay v R).foot b) : (fO gx pbx gy m Ax Ay v (upd R j A)).holds w := by
  have hb : (Hp.Own.both (fO gx pbx gy m Ax Ay v R) A).holds w := ⟨h, hA, fun b h1 h2 => hd b h2 h1⟩
  have := (Own.fam_take (.o j) (show fam gx pbx gy m Ax Ay v R (.o j) = Hp.Own.emp from hj) hb).now
  rwa [show upd (fam gx pbx gy m Ax Ay v R) (.o j) A = fam gx pbx gy m Ax Ay v (upd R j A) from by funext i; cases i <;> simp [upd, fam]] at this
theorem fO_foot {gx pbx gy m : Nat} {Ax Ay : Ab} {v : Value} {R : Nat → Hp.Own} {j : Nat} {A : Hp.Own} {b : Nat} (h : (fO gx pbx gy m Ax Ay v (upd R j A)).foot b) : A.foot b ∨ (fO gx pbx gy m Ax Ay v R).foot b := by
  obtain ⟨i, hi⟩ := h
  cases i with
  | x => exact Or.inr ⟨.x, hi⟩
  | y => exact Or.inr ⟨.y, hi⟩
  | o k =>
    simp only [fam, upd] at hi
    split at hi
    · exact Or.inl hi
    · exact Or.inr ⟨.o k, hi⟩
theorem put3 {gx pbx gy m : Nat} {A : Ab} {v : Value} {R : Nat → Hp.Own} {w W Wf : World} {gc b14 b15 : Nat} {vc : Value} {c14 c15 : Array Value} (h : Turns w W Hp.Own.emp (fO gx pbx gy m A A v R)) (e9 : R 9 = Hp.Own.emp) (e5 : R 5 = Hp.Own.emp) (e6 : R 6 = Hp.Own.emp)
    (hc : Chg (fun _ => False) W Wf) (hq : (qO gc m vc A).holds Wf) (h14 : Blk Wf b14 c14 3) (h15 : Blk Wf b15 c15 52) (n1 : W.heap.size ≤ b14) (n2 : W.heap.size ≤ b15) (n3 : b14 ≠ b15) (nq : ∀ b, (qO gc m vc A).foot b → W.heap.size ≤ b ∧ b ≠ b14 ∧ b ≠ b15) :
    Turns w Wf Hp.Own.emp (fO gx pbx gy m A A v (upd (upd (upd R 9 (qO gc m vc A)) 5 (Hp.Own.blk b14 c14 3)) 6 (Hp.Own.blk b15 c15 52))) := by
  have hlt : ∀ b, (fO gx pbx gy m A A v R).foot b → b < W.heap.size := fun b hb => Hp.Own.lt _ h.now b hb
  have s0 : (fO gx pbx gy m A A v R).holds Wf := Own.chg h.now hc (fun _ _ h => h)
  have s1 := fO_raw 9 e9 s0 hq (fun b hb hf => by have := hlt b hf; have := (nq b hb).1; omega)
  have s2 := fO_raw 5 (by simp [upd, e5]) s1 (A := Hp.Own.blk b14 c14 3) h14 (fun b (hb : b = b14) hf => by
    rcases fO_foot hf with hf | hf
    · exact (nq b hf).2.1 hb
    · have := hlt b hf; omega)
  have s3 := fO_raw 6 (by simp [upd, e6]) s2 (A := Hp.Own.blk b15 c15 52) h15 (fun b (hb : b = b15) hf => by
    rcases fO_foot hf with hf | hf
    · have hf : b = b14 := hf; omega
    · rcases fO_foot hf with hf | hf
      · exact (nq b hf).2.2 hb
      · have := hlt b hf; omega)
  refine ⟨h.chg.trans (hc.mono fun _ _ h => h.elim), s3, fun b hb => ?_⟩
  have hs := h.chg.size
  rcases fO_foot hb with hf | hf
  · have hf : b = b15 := hf; exact Or.inr (by omega)
  · rcases fO_foot hf with hf | hf
    · have hf : b = b14 := hf; exact Or.inr (by omega)
    · rcases fO_foot hf with hf | hf
      · exact Or.inr (by have := (nq b hf).1; omega)
      · exact h.near b hf
theorem own_alloc' {O : Hp.Own} {w : World} (h : O.holds w) (o : Obj) : O.holds (w.alloc o) := ((Turns.refl h).alloc o).now
theorem own_set' {O : Hp.Own} {w : World} {b : Nat} {v : Value} (h : O.holds w) (hb : ¬ O.foot b) : O.holds (w.setCell ⟨b, 0, none⟩ v) := O.stable h fun k hk => Below.heap_setCell _ _ _ _ (fun e => hb (by rw [← show k = b from e]; exact hk))
theorem blk_new' {w : World} {cs : Array Value} {T : TypeId} {b : Nat} (hb : b = w.heap.size) : Blk (w.alloc (.cells cs T)) b cs T := by subst hb; exact Blk.new _ _ _
theorem blk_set' {w : World} {b : Nat} {u v : Value} {T : TypeId} (h : Blk w b #[u] T) : Blk (w.setCell ⟨b, 0, none⟩ v) b #[v] T := h.set 0 v
theorem blk_ne' {w : World} {b b' : Nat} {cs : Array Value} {v : Value} {T : TypeId} (h : Blk w b cs T) (hn : b ≠ b') : Blk (w.setCell ⟨b', 0, none⟩ v) b cs T := h.set_ne (a := ⟨b', 0, none⟩) hn v
theorem chg_set' {w W : World} {b : Nat} {v : Value} (h : Chg (fun _ => False) w W) (hb : w.heap.size ≤ b) : Chg (fun _ => False) w (W.setCell ⟨b, 0, none⟩ v) := h.set (p := ⟨b, 0, none⟩) (Or.inl hb) v
theorem qo_far {s b k : Nat} {P : Nat → Prop} (h : ∀ b, P b → s + k ≤ b) (hb : b < s + k) : ¬ P b := fun hp => by have := h b hp; omega
theorem qo_far2 {s b : Nat} {P : Nat → Prop} (h : ∀ b, P b → b < s) (hb : s ≤ b) : ¬ P b := fun hp => by have := h b hp; omega
theorem near_emp1 {W W' : World} {o : Obj} {O : Hp.Own} (t : Turns (W.alloc o).drew W' Hp.Own.emp O) (b : Nat) (hb : O.foot b) : W.heap.size + 1 ≤ b := by
  have := (t.near b hb).elim (fun h => h.elim) (fun h => h)
  simpa using this
theorem near_emp2 {W W' : World} {o o' : Obj} {O : Hp.Own} (t : Turns ((W.alloc o).alloc o').drew W' Hp.Own.emp O) (b : Nat) (hb : O.foot b) : W.heap.size + 2 ≤ b := by
  have h1 : (((W.alloc o).alloc o').drew).heap.size ≤ b := (t.near b hb).elim (fun h => h.elim) (fun h => h)
  simpa using h1
theorem box_1 {w1 w2 : World} {u : Value} {T : TypeId} {O : Hp.Own} (h : Turns (w1.alloc (.cells #[u] T)).drew w2 Hp.Own.emp O) : Blk w2 w1.heap.size #[u] T := Blk.chg (Blk.new w1 #[u] T).drew h.chg (fun h => h)
theorem box_2 {w1 w2 : World} {u u' : Value} {T T' : TypeId} {O : Hp.Own} (h : Turns ((w1.alloc (.cells #[u] T)).alloc (.cells #[u'] T')).drew w2 Hp.Own.emp O) : Blk w2 w1.heap.size #[u] T ∧ Blk w2 (w1.heap.size + 1) #[u'] T' := by
  have hb2 := Blk.chg (Blk.new (w1.alloc (.cells #[u] T)) #[u'] T').drew h.chg (fun h => h)
  rw [World.size_alloc] at hb2
  exact ⟨Blk.chg ((Blk.new w1 #[u] T).alloc _).drew h.chg (fun h => h), hb2⟩
theorem near_emp {w W : World} {O : Hp.Own} (t : Turns w W Hp.Own.emp O) (b : Nat) (hb : O.foot b) : w.heap.size ≤ b := (t.near b hb).elim (fun h => h.elim) (fun h => h)
theorem put_a {gx pbx gy m gc : Nat} {A : Ab} {v vc : Value} {R : Nat → Hp.Own} {w W wA : World} {bv : Value} (h : Turns w W Hp.Own.emp (fO gx pbx gy m A A v R)) (e9 : R 9 = Hp.Own.emp) (e5 : R 5 = Hp.Own.emp) (e6 : R 6 = Hp.Own.emp) (t : Turns W.drew wA Hp.Own.emp (qO gc m vc A)) :
    Turns w ((wA.alloc (.cells #[bv] 3)).alloc (.cells #[vc] 52)) Hp.Own.emp (fO gx pbx gy m A A v (upd (upd (upd R 9 (qO gc m vc A)) 5 (Hp.Own.blk (wA.heap.size) #[bv] 3)) 6 (Hp.Own.blk (wA.heap.size + 1) #[vc] 52))) := by
  have hqf : ∀ b, (qO gc m vc A).foot b → W.heap.size ≤ b := near_emp (t.drewl)
  have hql : ∀ b, (qO gc m vc A).foot b → b < wA.heap.size := fun b hb => Hp.Own.lt _ t.now b hb
  have hcA : Chg (fun _ => False) W wA := t.drewl.chg.mono fun _ _ h => h.elim
  have hs : W.heap.size ≤ wA.heap.size := t.chg.size
  skip
  refine put3 h e9 e5 e6 ((hcA.alloc _).alloc _) (own_alloc' (own_alloc' t.now _) _) ((blk_new' rfl).alloc _) (blk_new' (by simp)) ?_ ?_ ?_ ?_
  · omega
  · omega
  · omega
  · intro b hb; have := hqf b hb; have := hql b hb; omega
theorem put_b {gx pbx gy m gc : Nat} {A : Ab} {v vc : Value} {R : Nat → Hp.Own} {w W wA : World} {bv : Value} (h : Turns w W Hp.Own.emp (fO gx pbx gy m A A v R)) (e9 : R 9 = Hp.Own.emp) (e5 : R 5 = Hp.Own.emp) (e6 : R 6 = Hp.Own.emp) (t : Turns W.drew wA Hp.Own.emp (qO gc m vc A)) :
    Turns w ((wA.alloc (.cells #[vc] 52)).alloc (.cells #[bv] 3)) Hp.Own.emp (fO gx pbx gy m A A v (upd (upd (upd R 9 (qO gc m vc A)) 5 (Hp.Own.blk (wA.heap.size + 1) #[bv] 3)) 6 (Hp.Own.blk (wA.heap.size) #[vc] 52))) := by
  have hqf : ∀ b, (qO gc m vc A).foot b → W.heap.size ≤ b := near_emp (t.drewl)
  have hql : ∀ b, (qO gc m vc A).foot b → b < wA.heap.size := fun b hb => Hp.Own.lt _ t.now b hb
  have hcA : Chg (fun _ => False) W wA := t.drewl.chg.mono fun _ _ h => h.elim
  have hs : W.heap.size ≤ wA.heap.size := t.chg.size
  skip
  refine put3 h e9 e5 e6 ((hcA.alloc _).alloc _) (own_alloc' (own_alloc' t.now _) _) (blk_new' (by simp)) ((blk_new' rfl).alloc _) ?_ ?_ ?_ ?_
  · omega
  · omega
  · omega
  · intro b hb; have := hqf b hb; have := hql b hb; omega
theorem put_c {gx pbx gy m gc : Nat} {A : Ab} {v vc u u' : Value} {R : Nat → Hp.Own} {w W wA : World} {bv : Value} (h : Turns w W Hp.Own.emp (fO gx pbx gy m A A v R)) (e9 : R 9 = Hp.Own.emp) (e5 : R 5 = Hp.Own.emp) (e6 : R 6 = Hp.Own.emp) (t : Turns (W.alloc (.cells #[u] 3)).drew wA Hp.Own.emp (qO gc m vc A)) :
    Turns w (((wA.alloc (.cells #[u'] 52)).setCell ⟨W.heap.size, 0, none⟩ bv).setCell ⟨wA.heap.size, 0, none⟩ vc) Hp.Own.emp (fO gx pbx gy m A A v (upd (upd (upd R 9 (qO gc m vc A)) 5 (Hp.Own.blk (W.heap.size) #[bv] 3)) 6 (Hp.Own.blk (wA.heap.size) #[vc] 52))) := by
  have hqf : ∀ b, (qO gc m vc A).foot b → W.heap.size + 1 ≤ b := near_emp1 t
  have hql : ∀ b, (qO gc m vc A).foot b → b < wA.heap.size := fun b hb => Hp.Own.lt _ t.now b hb
  have hcA : Chg (fun _ => False) W wA := (((Chg.refl (fun _ => False) W).alloc _).drew).trans (t.chg.mono fun _ _ h => h.elim)
  have hs : W.heap.size + 1 ≤ wA.heap.size := by have := t.chg.size; simpa using this
  have hB1 := box_1 t
  refine put3 h e9 e5 e6 (chg_set' (chg_set' (hcA.alloc _) (Nat.le_refl _)) (by omega)) (own_set' (own_set' (own_alloc' t.now _) (fun hp => by have := hqf _ hp; omega)) (fun hp => by have := hql _ hp; omega)) (blk_ne' (blk_set' (hB1.alloc _)) (by omega)) (blk_set' (blk_ne' (blk_new' rfl) (by omega))) ?_ ?_ ?_ ?_
  · omega
  · omega
  · omega
  · intro b hb; have := hqf b hb; have := hql b hb; omega
theorem put_d {gx pbx gy m gc : Nat} {A : Ab} {v vc u u' : Value} {R : Nat → Hp.Own} {w W wA : World} {bv : Value} (h : Turns w W Hp.Own.emp (fO gx pbx gy m A A v R)) (e9 : R 9 = Hp.Own.emp) (e5 : R 5 = Hp.Own.emp) (e6 : R 6 = Hp.Own.emp) (t : Turns ((W.alloc (.cells #[u] 3)).alloc (.cells #[u'] 52)).drew wA Hp.Own.emp (qO gc m vc A)) :
    Turns w ((wA.setCell ⟨W.heap.size, 0, none⟩ bv).setCell ⟨W.heap.size + 1, 0, none⟩ vc) Hp.Own.emp (fO gx pbx gy m A A v (upd (upd (upd R 9 (qO gc m vc A)) 5 (Hp.Own.blk (W.heap.size) #[bv] 3)) 6 (Hp.Own.blk (W.heap.size + 1) #[vc] 52))) := by
  have hqf : ∀ b, (qO gc m vc A).foot b → W.heap.size + 2 ≤ b := near_emp2 t
  have hql : ∀ b, (qO gc m vc A).foot b → b < wA.heap.size := fun b hb => Hp.Own.lt _ t.now b hb
  have hcA : Chg (fun _ => False) W wA := ((((Chg.refl (fun _ => False) W).alloc _).alloc _).drew).trans (t.chg.mono fun _ _ h => h.elim)
  have hs : W.heap.size + 2 ≤ wA.heap.size := by have := t.chg.size; simpa using this
  have hB1 := (box_2 t).1
  have hB2 := (box_2 t).2
  refine put3 h e9 e5 e6 (chg_set' (chg_set' hcA (Nat.le_refl _)) (Nat.le_succ _)) (own_set' (own_set' t.now (fun hp => by have := hqf _ hp; omega)) (fun hp => by have := hqf _ hp; omega)) (blk_ne' (blk_set' hB1) (by omega)) (blk_set' (blk_ne' hB2 (by omega))) ?_ ?_ ?_ ?_
  · omega
  · omega
  · omega
  · intro b hb; have := hqf b hb; have := hql b hb; omega
theorem put_e {gx pbx gy m gc : Nat} {A : Ab} {v vc u : Value} {R : Nat → Hp.Own} {w W wA : World} {bv : Value} (h : Turns w W Hp.Own.emp (fO gx pbx gy m A A v R)) (e9 : R 9 = Hp.Own.emp) (e5 : R 5 = Hp.Own.emp) (e6 : R 6 = Hp.Own.emp) (t : Turns (W.alloc (.cells #[u] 52)).drew wA Hp.Own.emp (qO gc m vc A)) :
    Turns w ((wA.alloc (.cells #[bv] 3)).setCell ⟨W.heap.size, 0, none⟩ vc) Hp.Own.emp (fO gx pbx gy m A A v (upd (upd (upd R 9 (qO gc m vc A)) 5 (Hp.Own.blk (wA.heap.size) #[bv] 3)) 6 (Hp.Own.blk (W.heap.size) #[vc] 52))) := by
  have hqf : ∀ b, (qO gc m vc A).foot b → W.heap.size + 1 ≤ b := near_emp1 t
  have hql : ∀ b, (qO gc m vc A).foot b → b < wA.heap.size := fun b hb => Hp.Own.lt _ t.now b hb
  have hcA : Chg (fun _ => False) W wA := (((Chg.refl (fun _ => False) W).alloc _).drew).trans (t.chg.mono fun _ _ h => h.elim)
  have hs : W.heap.size + 1 ≤ wA.heap.size := by have := t.chg.size; simpa using this
  have hB1 := box_1 t
  refine put3 h e9 e5 e6 (chg_set' (hcA.alloc _) (Nat.le_refl _)) (own_set' (own_alloc' t.now _) (fun hp => by have := hqf _ hp; omega)) (blk_ne' (blk_new' rfl) (by omega)) (blk_set' (hB1.alloc _)) ?_ ?_ ?_ ?_
  · omega
  · omega
  · omega
  · intro b hb; have := hqf b hb; have := hql b hb; omega
theorem put_f {gx pbx gy m gc : Nat} {A : Ab} {v vc u u' : Value} {R : Nat → Hp.Own} {w W wA : World} {bv : Value} (h : Turns w W Hp.Own.emp (fO gx pbx gy m A A v R)) (e9 : R 9 = Hp.Own.emp) (e5 : R 5 = Hp.Own.emp) (e6 : R 6 = Hp.Own.emp) (t : Turns ((W.alloc (.cells #[u] 52)).alloc (.cells #[u'] 3)).drew wA Hp.Own.emp (qO gc m vc A)) :
    Turns w ((wA.setCell ⟨W.heap.size + 1, 0, none⟩ bv).setCell ⟨W.heap.size, 0, none⟩ vc) Hp.Own.emp (fO gx pbx gy m A A v (upd (upd (upd R 9 (qO gc m vc A)) 5 (Hp.Own.blk (W.heap.size + 1) #[bv] 3)) 6 (Hp.Own.blk (W.heap.size) #[vc] 52))) := by
  have hqf : ∀ b, (qO gc m vc A).foot b → W.heap.size + 2 ≤ b := near_emp2 t
  have hql : ∀ b, (qO gc m vc A).foot b → b < wA.heap.size := fun b hb => Hp.Own.lt _ t.now b hb
  have hcA : Chg (fun _ => False) W wA := ((((Chg.refl (fun _ => False) W).alloc _).alloc _).drew).trans (t.chg.mono fun _ _ h => h.elim)
  have hs : W.heap.size + 2 ≤ wA.heap.size := by have := t.chg.size; simpa using this
  have hB1 := (box_2 t).1
  have hB2 := (box_2 t).2
  refine put3 h e9 e5 e6 (chg_set' (chg_set' hcA (Nat.le_succ _)) (Nat.le_refl _)) (own_set' (own_set' t.now (fun hp => by have := hqf _ hp; omega)) (fun hp => by have := hqf _ hp; omega)) (blk_ne' (blk_set' hB2) (by omega)) (blk_set' (blk_ne' hB1 (by omega))) ?_ ?_ ?_ ?_
  · omega
  · omega
  · omega
  · intro b hb; have := hqf b hb; have := hql b hb; omega
end Go.Proofs.Ytpaaghbmlenlfaa.Ol
