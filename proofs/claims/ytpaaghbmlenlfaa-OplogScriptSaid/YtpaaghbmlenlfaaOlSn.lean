/- The law's logs beside the document's, as one thing: the desk. -/
import Derived.Test.YtpaaghbmlenlfaaOlSm
import Derived.Test.YtpaaghbmlenlfaaOlSd
import Derived.Test.YtpaaghbmlenlfaaOlSe
namespace Go.Proofs.Ytpaaghbmlenlfaa.Ol
open Go.Hp.M7
open Go.RowKit Go.Hp
attribute [local go_sem] min2_lean min_two max2_lean max_two
set_option linter.unusedSimpArgs false
set_option linter.unusedVariables false
set_option maxRecDepth 100000
theorem fam_out {ι : Type} [DecidableEq ι] {F : ι → Hp.Own} {w w' : World} {O A O' : Hp.Own} (h : (Hp.Own.fam F).holds w) (i : ι) (hi : F i = O) (t : Turns w w' O (Hp.Own.both A O')) : Turns w w' (Hp.Own.fam F) (Hp.Own.both A (Hp.Own.fam (upd F i O'))) := by
  have t1 := Turns.famE h i hi t
  have hn := t1.now
  have e1 : upd F i (Hp.Own.both A O') i = Hp.Own.both A O' := by simp [upd]
  have hi0 := hn.1 i
  rw [e1] at hi0
  have ho : ∀ j, j ≠ i → upd F i O' j = upd F i (Hp.Own.both A O') j := fun j hj => by simp [upd, hj]
  have hio : upd F i O' i = O' := by simp [upd]
  have inj : ∀ j b, (upd F i O' j).foot b → (upd F i (Hp.Own.both A O') j).foot b := fun j b hb => by
    by_cases e : j = i
    · subst e
      rw [hio] at hb
      rw [e1]
      exact Or.inr hb
    · rwa [← ho j e]
  refine ⟨t1.chg, ⟨hi0.1, ⟨fun j => ?_, fun j k b hj hk => hn.2 j k b (inj j b hj) (inj k b hk)⟩, fun b ha hb => ?_⟩, fun b hb => t1.near b ?_⟩
  · by_cases e : j = i
    · subst e
      rw [hio]
      exact hi0.2.1
    · rw [ho j e]
      exact hn.1 j
  · obtain ⟨j, hj⟩ := hb
    by_cases e : j = i
    · subst e
      rw [hio] at hj
      exact hi0.2.2 b ha hj
    · exact e (hn.2 j i b (inj j b hj) (by rw [e1]; exact Or.inl ha))
  · rcases hb with hb | ⟨j, hj⟩
    · exact ⟨i, by rw [e1]; exact Or.inl hb⟩
    · exact ⟨j, inj j b hj⟩
inductive DI | ar | br | t (j : Nat) | r (j : Nat) deriving DecidableEq
structure DK where
  av : Value
  bv : Value
  n : Nat
  ga : Nat → Nat
  mb : Nat → Nat
  l : Nat → Ab
  gr : Nat → Nat
  vr : Nat → Value
  r : Nat → Ab
abbrev Ptr (b : Nat) : Value := .pointer (some ⟨b, 0, none⟩)
def DK.fam (m : Nat) (d : DK) : DI → Hp.Own
  | .ar => Hp.Own.row 44 1 d.av d.n ((List.range d.n).map fun j => Ptr (d.ga j))
  | .br => Hp.Own.row 59 1 d.bv d.n ((List.range d.n).map fun j => Ptr (d.gr j))
  | .t j => if j < d.n then pO (d.ga j) (d.mb j) m (d.l j) else Hp.Own.emp
  | .r j => if j < d.n then qO (d.gr j) m (d.vr j) (d.r j) else Hp.Own.emp
def dO (m g f : Nat) (k : KM) (d : DK) : Hp.Own := Hp.Own.both (bO g d.av d.bv f k) (Hp.Own.fam (d.fam m))
structure DK.Ok (m : Nat) (d : DK) : Prop where
  n1 : 1 ≤ d.n
  n4 : d.n ≤ 4
  ok : ∀ j, j < d.n → (d.l j).Ok m
  rel : ∀ j, j < d.n → d.l j = d.r j
variable {m g f : Nat} {k : KM} {d : DK} {w w' W : World} {O : Hp.Own}
theorem dO_tb (h : (dO m g f k d).holds w) {j : Nat} (hj : j < d.n) : (pO (d.ga j) (d.mb j) m (d.l j)).holds w := by
  have := h.2.1.1 (.t j)
  simpa [DK.fam, hj] using this
theorem dO_ref (h : (dO m g f k d).holds w) {j : Nat} (hj : j < d.n) : (qO (d.gr j) m (d.vr j) (d.r j)).holds w := by
  have := h.2.1.1 (.r j)
  simpa [DK.fam, hj] using this
/-- What a walk reads. -/
theorem dO_see (h : (dO m g f k d).holds w) {j : Nat} (hj : j < d.n) : ∃ ba ca bb cb, d.av = .slice (some ⟨ba, 0, none⟩) d.n ca ∧ d.bv = .slice (some ⟨bb, 0, none⟩) d.n cb ∧
    w.cell? ⟨g, 0, none⟩ = some d.av ∧ w.cell? ⟨g, 1, none⟩ = some d.bv ∧ w.cell? ⟨ba, j, none⟩ = some (Ptr (d.ga j)) ∧ w.cell? ⟨bb, j, none⟩ = some (Ptr (d.gr j)) ∧
    w.frozen? ⟨g, 0, none⟩ = false ∧ w.frozen? ⟨g, 1, none⟩ = false ∧ g < w.heap.size ∧ ba < w.heap.size ∧ bb < w.heap.size := by
  obtain ⟨b0, b1, -, -, -, f0, f1, -, -, -, hl⟩ := h.1.1.five
  have ra : w.ownsRow 0 44 1 d.av d.n ((List.range d.n).map fun j => Ptr (d.ga j)) := h.2.1.1 .ar
  have rb : w.ownsRow 0 59 1 d.bv d.n ((List.range d.n).map fun j => Ptr (d.gr j)) := h.2.1.1 .br
  obtain ⟨ba, ca, e1, l1, _⟩ := row_form ra (by omega)
  obtain ⟨bb, cb, e2, l2, _⟩ := row_form rb (by omega)
  have ra' := ra
  have rb' := rb
  rw [e1] at ra'
  rw [e2] at rb'
  exact ⟨ba, ca, bb, cb, e1, e2, b0, b1, (row_at ra' j (range_at (fun j => Ptr (d.ga j)) hj)).1, (row_at rb' j (range_at (fun j => Ptr (d.gr j)) hj)).1, f0, f1, hl, l1, l2⟩
/-- The same, the slices being known. -/
theorem dO_at (h : (dO m g f k d).holds w) {j : Nat} (hj : j < d.n) {ba ca bb cb : Nat} (e1 : d.av = .slice (some ⟨ba, 0, none⟩) d.n ca) (e2 : d.bv = .slice (some ⟨bb, 0, none⟩) d.n cb) {n : Nat} (hn : d.n = n) :
    w.cell? ⟨g, 0, none⟩ = some (.slice (some ⟨ba, 0, none⟩) n ca) ∧ w.cell? ⟨g, 1, none⟩ = some (.slice (some ⟨bb, 0, none⟩) n cb) ∧ w.cell? ⟨ba, j, none⟩ = some (Ptr (d.ga j)) ∧ w.cell? ⟨bb, j, none⟩ = some (Ptr (d.gr j)) ∧
    w.frozen? ⟨g, 0, none⟩ = false ∧ w.frozen? ⟨g, 1, none⟩ = false ∧ g < w.heap.size ∧ ba < w.heap.size ∧ bb < w.heap.size := by
  subst hn
  obtain ⟨ba', ca', bb', cb', q1, q2, r⟩ := dO_see h hj
  obtain ⟨x1, _, rfl⟩ := Value.slice.inj (e1.symm.trans q1)
  obtain ⟨x2, _, rfl⟩ := Value.slice.inj (e2.symm.trans q2)
  simp only [Option.some.injEq, Addr.mk.injEq, and_true] at x1 x2
  subst x1 x2
  rw [q1, q2] at r
  exact r
theorem dO_ne (h : (dO m g f k d).holds w) {ba ca bb cb : Nat} (e1 : d.av = .slice (some ⟨ba, 0, none⟩) d.n ca) (e2 : d.bv = .slice (some ⟨bb, 0, none⟩) d.n cb) : ba ≠ g ∧ bb ≠ g ∧ ba ≠ bb := by
  have fa : ((d.fam m) .ar).foot ba := by show d.av.ownBlock = some ba; rw [e1]; rfl
  have fb : ((d.fam m) .br).foot bb := by show d.bv.ownBlock = some bb; rw [e2]; rfl
  refine ⟨fun e => ?_, fun e => ?_, fun e => ?_⟩
  · exact h.2.2 ba (Or.inl e) ⟨.ar, fa⟩
  · exact h.2.2 bb (Or.inl e) ⟨.br, fb⟩
  · have := h.2.1.2 .ar .br ba fa (by rw [e]; exact fb)
    cases this
abbrev DK.setT (d : DK) (j : Nat) (l' : Ab) : DK := { d with l := fun i => if i = j then l' else d.l i }
abbrev DK.setR (d : DK) (j : Nat) (v' : Value) (r' : Ab) : DK := { d with vr := fun i => if i = j then v' else d.vr i, r := fun i => if i = j then r' else d.r i }
theorem setT_fam (j : Nat) (hj : j < d.n) (l' : Ab) : upd (d.fam m) (.t j) (pO (d.ga j) (d.mb j) m l') = ((d.setT j l').fam m) := by
  funext i
  cases i with
  | ar => simp [upd, DK.fam, DK.setT]
  | br => simp [upd, DK.fam, DK.setT]
  | t i =>
    by_cases e : i = j
    · subst e; simp [upd, DK.fam, DK.setT, hj]
    · simp [upd, DK.fam, DK.setT, e]
  | r i => simp only [upd, reduceCtorEq, if_false]; rfl
theorem setR_fam (j : Nat) (hj : j < d.n) (v' : Value) (r' : Ab) : upd (d.fam m) (.r j) (qO (d.gr j) m v' r') = ((d.setR j v' r').fam m) := by
  funext i
  cases i with
  | ar => simp [upd, DK.fam, DK.setR]
  | br => simp [upd, DK.fam, DK.setR]
  | t i => simp only [upd, reduceCtorEq, if_false]; rfl
  | r i =>
    by_cases e : i = j
    · subst e; simp [upd, DK.fam, DK.setR, hj]
    · simp [upd, DK.fam, DK.setR, e]
theorem dO_t (h : (dO m g f k d).holds w) {j : Nat} (hj : j < d.n) {l' : Ab} (t : Turns w w' (pO (d.ga j) (d.mb j) m (d.l j)) (pO (d.ga j) (d.mb j) m l')) : Turns w w' (dO m g f k d) (dO m g f k (d.setT j l')) := by
  have t1 := Turns.famE h.2.1 (.t j) (O := pO (d.ga j) (d.mb j) m (d.l j)) (by simp [DK.fam, hj]) t
  rw [setT_fam j hj] at t1
  exact Turns.rightT h t1
theorem dO_r (h : (dO m g f k d).holds w) {j : Nat} (hj : j < d.n) {v' : Value} {r' : Ab} (t : Turns w w' (qO (d.gr j) m (d.vr j) (d.r j)) (qO (d.gr j) m v' r')) : Turns w w' (dO m g f k d) (dO m g f k (d.setR j v' r')) := by
  have t1 := Turns.famE h.2.1 (.r j) (O := qO (d.gr j) m (d.vr j) (d.r j)) (by simp [DK.fam, hj]) t
  rw [setR_fam j hj] at t1
  exact Turns.rightT h t1
theorem out_of {w w' : World} {B F F' A : Hp.Own} (h : (Hp.Own.both B F).holds w) (t : Turns w w' F (Hp.Own.both A F')) : Turns w w' (Hp.Own.both B F) (Hp.Own.both A (Hp.Own.both B F')) :=
  (Turns.rightT h t).flip
theorem dO_tout (h : (dO m g f k d).holds w) {j : Nat} (hj : j < d.n) {A : Hp.Own} {l' : Ab} (t : Turns w w' (pO (d.ga j) (d.mb j) m (d.l j)) (Hp.Own.both A (pO (d.ga j) (d.mb j) m l'))) : Turns w w' (dO m g f k d) (Hp.Own.both A (dO m g f k (d.setT j l'))) := by
  have t1 := fam_out h.2.1 (.t j) (O := pO (d.ga j) (d.mb j) m (d.l j)) (by simp [DK.fam, hj]) t
  rw [setT_fam j hj] at t1
  exact out_of h t1
theorem dO_rout (h : (dO m g f k d).holds w) {j : Nat} (hj : j < d.n) {A : Hp.Own} {v' : Value} {r' : Ab} (t : Turns w w' (qO (d.gr j) m (d.vr j) (d.r j)) (Hp.Own.both A (qO (d.gr j) m v' r'))) : Turns w w' (dO m g f k d) (Hp.Own.both A (dO m g f k (d.setR j v' r'))) := by
  have t1 := fam_out h.2.1 (.r j) (O := qO (d.gr j) m (d.vr j) (d.r j)) (by simp [DK.fam, hj]) t
  rw [setR_fam j hj] at t1
  exact out_of h t1
theorem setT_self (j : Nat) : d.setT j (d.l j) = d := by
  unfold DK.setT
  have : (fun i => if i = j then d.l j else d.l i) = d.l := by
    funext i
    split
    · rename_i e; rw [e]
    · rfl
  rw [this]
/-- The books turn. -/
theorem dO_bk (h : (dO m g f k d).holds w) {f' : Nat} {k' : KM} (t : Turns w w' (bO g d.av d.bv f k) (bO g d.av d.bv f' k')) : Turns w w' (dO m g f k d) (dO m g f' k' d) := Turns.left h t
theorem unassoc {w W : World} {O A B X : Hp.Own} (h : Turns w W O (Hp.Own.both A (Hp.Own.both B X))) : Turns w W O (Hp.Own.both (Hp.Own.both A B) X) :=
  ⟨h.chg, ⟨⟨h.now.1, h.now.2.1.1, fun b h1 h2 => h.now.2.2 b h1 (Or.inl h2)⟩, h.now.2.1.2.1, fun b h1 h2 => h1.elim (fun h1 => h.now.2.2 b h1 (Or.inr h2)) (fun h1 => h.now.2.1.2.2 b h1 h2)⟩, fun b hb => h.near b (by
    rcases hb with (hb | hb) | hb
    · exact Or.inl hb
    · exact Or.inr (Or.inl hb)
    · exact Or.inr (Or.inr hb))⟩
theorem dO_keep {A : Hp.Own} (h : (Hp.Own.both A (dO m g f k d)).holds w) {k' : KM} (t : Turns w w' (Hp.Own.both A (bO g d.av d.bv f k)) (bO g d.av d.bv f k')) : Turns w w' (Hp.Own.both A (dO m g f k d)) (dO m g f k' d) :=
  (unassoc (Turns.refl h)).trans (Turns.left (unassoc (Turns.refl h)).now t)
/-- A table and the document's are laid at a place. -/
def DK.place (d : DK) (tq n' : Nat) (av' bv' : Value) (g' b' : Nat) (l' : Ab) (gr' : Nat) (vr' : Value) (r' : Ab) : DK :=
  ⟨av', bv', n', fun j => if j = tq then g' else d.ga j, fun j => if j = tq then b' else d.mb j, fun j => if j = tq then l' else d.l j, fun j => if j = tq then gr' else d.gr j, fun j => if j = tq then vr' else d.vr j, fun j => if j = tq then r' else d.r j⟩
theorem turn_nil {w : World} {O : Hp.Own} : Turns w w O Hp.Own.emp := ⟨Chg.refl _ _, trivial, fun b hb => hb.elim⟩
theorem fam_place {ι : Type} [DecidableEq ι] {F : ι → Hp.Own} {w W : World} {O A B : Hp.Own} (i : ι) (h : Turns w W O (Hp.Own.both A (Hp.Own.both B (Hp.Own.fam F)))) : Turns w W O (Hp.Own.both B (Hp.Own.fam (upd F i A))) := by
  have h1 := h.flip
  have h2 := h1.at1 (Turns.rightT h1.n1 (Turns.famE h1.n1.2.1 i rfl turn_nil))
  have e : upd F i Hp.Own.emp i = Hp.Own.emp := by simp [upd]
  have h3 := h2.at1 ((Turns.refl h2.n1).swap.trans (Own.fam_take i e (Turns.refl h2.n1).swap.now))
  have e2 : upd (upd F i Hp.Own.emp) i A = upd F i A := by
    funext j
    unfold upd
    split <;> rfl
  rw [e2] at h3
  exact h3
theorem dO_place {F : DI → Hp.Own} {tq n' : Nat} {av' bv' : Value} {g' b' : Nat} {l' : Ab} {gr' : Nat} {vr' : Value} {r' : Ab}
    (h : Turns w W O (Hp.Own.both (pO g' b' m l') (Hp.Own.both (qO gr' m vr' r') (Hp.Own.both (bO g av' bv' f k) (Hp.Own.fam F)))))
    (h1 : F .ar = Hp.Own.row 44 1 av' n' ((List.range n').map fun j => Ptr (if j = tq then g' else d.ga j)))
    (h2 : F .br = Hp.Own.row 59 1 bv' n' ((List.range n').map fun j => Ptr (if j = tq then gr' else d.gr j)))
    (h3 : ∀ j, F (.t j) = (d.fam m) (.t j)) (h4 : ∀ j, F (.r j) = (d.fam m) (.r j)) (hn : ∀ j, j ≠ tq → (j < n' ↔ j < d.n)) (ht : tq < n') :
    Turns w W O (dO m g f k (d.place tq n' av' bv' g' b' l' gr' vr' r')) := by
  have t1 := fam_place (.t tq) (h.at1 (fam_place (.r tq) (Turns.refl h.n1)))
  refine t1.to (congrArg (Hp.Own.both _) (Own.fam_as fun i => ?_))
  cases i with
  | ar => simp only [upd, reduceCtorEq, if_false]; exact h1
  | br => simp only [upd, reduceCtorEq, if_false]; exact h2
  | t j =>
    by_cases e : j = tq
    · subst e
      simp [upd, DK.fam, DK.place, ht]
    · have := hn j e
      simp only [upd, DI.t.injEq, e, if_false, reduceCtorEq]
      rw [h3]
      simp [DK.fam, DK.place, e, this]
  | r j =>
    by_cases e : j = tq
    · subst e
      simp [upd, DK.fam, DK.place, ht]
    · have := hn j e
      simp only [upd, DI.r.injEq, e, if_false, reduceCtorEq]
      rw [h4]
      simp [DK.fam, DK.place, e, this]
theorem Ok_place (h : DK.Ok m d) {tq n' : Nat} (av' bv' : Value) (g' b' : Nat) {l' : Ab} (gr' : Nat) (vr' : Value) {r' : Ab} (hn : ∀ j, j ≠ tq → (j < n' ↔ j < d.n)) (h1 : 1 ≤ n') (h4 : n' ≤ 4) (ho : l'.Ok m) (hr : l' = r') : DK.Ok m (d.place tq n' av' bv' g' b' l' gr' vr' r') := by
  refine ⟨h1, h4, fun j hj => ?_, fun j hj => ?_⟩
  · show Ab.Ok m (if j = tq then l' else d.l j)
    split
    · exact ho
    · rename_i e; exact h.ok j ((hn j e).1 hj)
  · show (if j = tq then l' else d.l j) = (if j = tq then r' else d.r j)
    by_cases e : j = tq
    · rw [if_pos e, if_pos e]; exact hr
    · rw [if_neg e, if_neg e]; exact h.rel j ((hn j e).1 hj)
theorem Ok_set (h : DK.Ok m d) {j : Nat} {l' : Ab} {v' : Value} {r' : Ab} (ho : l'.Ok m) (hr : l' = r') : DK.Ok m ((d.setT j l').setR j v' r') := by
  refine ⟨h.n1, h.n4, fun i hi => ?_, fun i hi => ?_⟩
  · show Ab.Ok m (if i = j then l' else d.l i)
    split
    · exact ho
    · exact h.ok i hi
  · show (if i = j then l' else d.l i) = (if i = j then r' else d.r i)
    by_cases e : i = j
    · rw [if_pos e, if_pos e]; exact hr
    · rw [if_neg e, if_neg e]; exact h.rel i hi
theorem range_put {α : Type} (f : Nat → α) (n tq : Nat) (x : α) : (List.range n).map (fun j => if j = tq then x else f j) = ((List.range n).map f).set tq x := by
  refine List.ext_getElem (by simp) fun i h1 h2 => ?_
  rw [List.getElem_set]
  simp only [List.getElem_map, List.getElem_range]
  by_cases e : tq = i
  · rw [if_pos e, if_pos e.symm]
  · rw [if_neg e, if_neg (fun h => e h.symm)]
theorem ptr_add (h : Nat → Nat) (n x : Nat) : (List.range (n + 1)).map (fun j => Ptr (if j = n then x else h j)) = (List.range n).map (fun j => Ptr (h j)) ++ [Ptr x] := by
  rw [← range_add (fun j => Ptr (h j)) n (Ptr x)]
  refine List.map_congr_left fun j _ => ?_
  split <;> rfl
theorem ptr_put (h : Nat → Nat) (n tq x : Nat) : (List.range n).map (fun j => Ptr (if j = tq then x else h j)) = ((List.range n).map fun j => Ptr (h j)).set tq (Ptr x) := by
  rw [← range_put (fun j => Ptr (h j)) n tq (Ptr x)]
  refine List.map_congr_left fun j _ => ?_
  split <;> rfl
theorem dO_bo (h : (dO m g f k d).holds w) : (bO g d.av d.bv f k).holds w := h.1
theorem dO_rowbk {A : Hp.Own} (h : (Hp.Own.both A (dO m g f k d)).holds w) : (Hp.Own.both A (bO g d.av d.bv f k)).holds w := ⟨h.1, h.2.1.1, fun b h1 h2 => h.2.2 b h1 (Or.inl h2)⟩
theorem Oky.add {k : KM} (h : Oky k) (ov wv x y : Value) {n : Nat} {zs : List Value} (hz : Gd zs) (hn : n ≤ 900000) : Oky (k.add ov wv x y n zs) := fun j hj => by
  have hj : j < k.M + 1 := hj
  show Gd (if j = k.M then zs else k.xs j) ∧ (if j = k.M then n else k.len j) ≤ (if (if j = k.M then true else k.fr j) = true then 900000 else 1000000)
  by_cases e : j = k.M
  · rw [if_pos e, if_pos e, if_pos e, if_pos rfl]
    exact ⟨hz, hn⟩
  · rw [if_neg e, if_neg e, if_neg e]
    exact h j (by omega)
/-- The list that was kept last still reads as it did. -/
theorem add_src {k : KM} {ov wv x y : Value} {n : Nat} {zs : List Value} (h : (dO m g f (k.add ov wv x y n zs) d).holds w) (hw : k.Wf f k.M) : Src w x n 7 zs := by
  have h1 := (KM.reads h.1.2.1 (hw.add ov wv x y n zs) (i := k.M) (Nat.lt_succ_self _)).1
  have e1 : (k.add ov wv x y n zs).out k.M = x := if_pos rfl
  have e2 : (k.add ov wv x y n zs).len k.M = n := if_pos rfl
  have e3 : (k.add ov wv x y n zs).xs k.M = zs := if_pos rfl
  rw [e1, e2, e3] at h1
  exact h1
/-- The desk while it is being laid anew. -/
abbrev dF (g f : Nat) (k : KM) (av bv : Value) (F : DI → Hp.Own) : Hp.Own := Hp.Own.both (bO g av bv f k) (Hp.Own.fam F)
theorem dF_row {av bv : Value} {F : DI → Hp.Own} (h : (dF g f k av bv F).holds w) (i : DI) {R R' : Hp.Own} (hi : F i = R) (t : Turns w w' R R') : Turns w w' (dF g f k av bv F) (dF g f k av bv (upd F i R')) := Turns.rightT h (Turns.famE h.2.1 i hi t)
theorem dF_a {av bv : Value} {F : DI → Hp.Own} {A : Hp.Own} (h : Turns w W O (Hp.Own.both A (dF g f k av bv F))) (av' : Value) : Turns w (W.setCell ⟨g, 0, none⟩ av') O (Hp.Own.both A (dF g f k av' bv F)) :=
  h.at1 (Turns.left h.n1 (Turns.left h.n1.1 (Turns.blk_set h.n1.1.1 0 av')))
theorem dF_b {av bv : Value} {F : DI → Hp.Own} {A : Hp.Own} (h : Turns w W O (Hp.Own.both A (dF g f k av bv F))) (bv' : Value) : Turns w (W.setCell ⟨g, 1, none⟩ bv') O (Hp.Own.both A (dF g f k av bv' F)) :=
  h.at1 (Turns.left h.n1 (Turns.left h.n1.1 (Turns.blk_set h.n1.1.1 1 bv')))
theorem dF_see {av bv : Value} {F : DI → Hp.Own} (h : (dF g f k av bv F).holds w) : w.cell? ⟨g, 0, none⟩ = some av ∧ w.cell? ⟨g, 1, none⟩ = some bv ∧ w.frozen? ⟨g, 0, none⟩ = false ∧ w.frozen? ⟨g, 1, none⟩ = false ∧ g < w.heap.size := by
  obtain ⟨b0, b1, -, -, -, f0, f1, -, -, -, hl⟩ := h.1.1.five
  exact ⟨b0, b1, f0, f1, hl⟩
theorem dF_at {av bv : Value} {F : DI → Hp.Own} (h : (dF g f k av bv F).holds w) (i : DI) {R : Hp.Own} (hi : F i = R) : R.holds w := by
  have := h.2.1.1 i
  rwa [hi] at this
end Go.Proofs.Ytpaaghbmlenlfaa.Ol
