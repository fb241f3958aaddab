/- A log by what it says: its base and its entries; both logs do the same. -/
import Derived.Test.YtpaaghbmlenlfaaOlPr
namespace Go.Proofs.Ytpaaghbmlenlfaa.Ol
open Go.RowKit Go.Hp
attribute [local go_sem] min2_lean min_two max2_lean max_two
set_option linter.unusedSimpArgs false
set_option linter.unusedVariables false
set_option maxRecDepth 100000
abbrev Ab := Int × List En
def aAdd (m : Nat) (A : Ab) (e : En) : Int × Ab := if A.2.length = m then (91, A) else if A.1 + A.2.length = 1099511627776 then (93, A) else (0, (A.1, A.2 ++ [e]))
def aCut (A : Ab) (op : Int) : Int × Ab := if op < A.1 ∨ A.1 + A.2.length < op then (92, A) else (0, (op, A.2.drop (op - A.1).toNat))
def aReset (m : Nat) (A : Ab) (b : Int) (l : List En) : Int × Ab := if b < 0 ∨ 1099511627776 < b ∨ 1099511627776 < b + l.length then (92, A) else if m < l.length then (90, A) else (0, (b, l))
structure Ab.Ok (m : Nat) (A : Ab) : Prop where
  m1 : 1 ≤ m
  m64 : m ≤ 64
  len : A.2.length ≤ m
  b0 : 0 ≤ A.1
  b1 : A.1 + A.2.length ≤ 1099511627776
theorem aAdd_ok {m : Nat} {A : Ab} (h : A.Ok m) (e : En) : (aAdd m A e).2.Ok m := by
  unfold aAdd
  split
  · exact h
  · split
    · exact h
    · exact ⟨h.m1, h.m64, by have := h.len; simp; omega, h.b0, by have := h.b1; simp; omega⟩
theorem aCut_ok {m : Nat} {A : Ab} (h : A.Ok m) (op : Int) : (aCut A op).2.Ok m := by
  unfold aCut
  split
  · exact h
  · exact ⟨h.m1, h.m64, by have := h.len; simp; omega, by have := h.b0; simp; omega, by have := h.b1; simp; omega⟩
theorem aReset_ok {m : Nat} {A : Ab} (h : A.Ok m) (b : Int) (l : List En) : (aReset m A b l).2.Ok m := by
  unfold aReset
  split
  · exact h
  · split
    · exact h
    · exact ⟨h.m1, h.m64, by simp; omega, by simp; omega, by simp; omega⟩
/-- The program's log says A. -/
structure LA (s : LogS) (g pb m : Nat) (A : Ab) : Prop where
  ok : s.ok
  g : s.g = g
  pb : s.pb = pb
  m : s.es.length = m
  b : s.base = A.1
  l : s.list = A.2
theorem LA.many {s : LogS} {g pb m : Nat} {A : Ab} (h : LA s g pb m A) : s.many = A.2.length := by rw [← h.l, s.list_len]
theorem LA.abok {s : LogS} {g pb m : Nat} {A : Ab} (h : LA s g pb m A) : A.Ok m :=
  ⟨by rw [← h.m]; exact h.ok.r1, by rw [← h.m]; exact h.ok.r64, by rw [← h.many, ← h.m]; exact h.ok.m, by rw [← h.b]; exact h.ok.b0, by rw [← h.many, ← h.b]; exact h.ok.b1⟩
def pO (g pb m : Nat) (A : Ab) : Own :=
  ⟨fun b => b = g ∨ b = pb, fun w => ∃ s, LA s g pb m A ∧ s.own.holds w,
    fun {w w'} h hb => by
      obtain ⟨s, h1, h2⟩ := h
      refine ⟨s, h1, s.own.stable h2 fun b hf => hb b ?_⟩
      rcases hf with hf | hf
      · exact Or.inl (by have hf : b = s.g := hf; rw [hf, h1.g])
      · exact Or.inr (by have hf : b = s.pb := hf; rw [hf, h1.pb]),
    fun {w} h b hb => by
      obtain ⟨s, h1, h2⟩ := h
      refine s.own.lt h2 b ?_
      rcases hb with rfl | rfl
      · exact Or.inl h1.g.symm
      · exact Or.inr h1.pb.symm⟩
theorem pO_foot {s : LogS} {g pb m : Nat} {A : Ab} (h : LA s g pb m A) (b : Nat) : s.own.foot b ↔ (pO g pb m A).foot b :=
  ⟨fun hf => hf.elim (fun hf => Or.inl (by have hf : b = s.g := hf; rw [hf, h.g])) (fun hf => Or.inr (by have hf : b = s.pb := hf; rw [hf, h.pb])),
    fun hf => hf.elim (fun hf => Or.inl (by subst hf; exact h.g.symm)) (fun hf => Or.inr (by subst hf; exact h.pb.symm))⟩
theorem pO_turns {s s' : LogS} {g pb m : Nat} {A A' : Ab} {w w' : World} (h : LA s g pb m A) (h' : LA s' g pb m A') (t : Turns w w' s.own s'.own) : Turns w w' (pO g pb m A) (pO g pb m A') :=
  ⟨t.chg.mono fun b _ hf => (pO_foot h b).1 hf, ⟨s', h', t.now⟩, fun b hb => Or.inl hb⟩
theorem pO_new {s' : LogS} {g pb m : Nat} {A' : Ab} {w w' : World} (h' : LA s' g pb m A') (t : Turns w w' Own.emp s'.own) : Turns w w' Own.emp (pO g pb m A') :=
  ⟨t.chg, ⟨s', h', t.now⟩, fun b hb => t.near b ((pO_foot h' b).2 hb)⟩
/-- The document's log says A. -/
abbrev qO (g m : Nat) (v : Value) (A : Ab) : Own := rO g m A.1 v A.2
theorem pO_ok {g pb m : Nat} {A : Ab} {w : World} (h : (pO g pb m A).holds w) : A.Ok m := by obtain ⟨s, h1, _⟩ := h; exact h1.abok
theorem pAdd (g pb m : Nat) (A : Ab) (e : En) (w : World) (h : (pO g pb m A).holds w) :
    Calls Try.prog 22 #[.pointer (some ⟨g, 0, none⟩), .agg e.cells.toArray] w fun r w' => r = .returned (.int .i64 (aAdd m A e).1) ∧ Turns w w' (pO g pb m A) (pO g pb m (aAdd m A e).2) := by
  have H := h
  obtain ⟨s, h1, h2⟩ := h
  have hm := h1.many
  have hk := h1.abok
  have hok := h1.ok
  unfold aAdd
  rw [← h1.g]
  split
  · rename_i hf
    exact (add_full s e w h2 hok (by rw [hm, h1.m, hf])).mono fun r w' hr => ⟨hr.1, by rw [h1.g]; exact Turns.of_kept H hr.2⟩
  · rename_i hf
    have hlt : s.many < s.es.length := by have := hk.len; rw [hm, h1.m]; omega
    split
    · rename_i hb
      exact (add_end s e w h2 hok hlt (by rw [hm, h1.b]; exact hb)).mono fun r w' hr => ⟨hr.1, by rw [h1.g]; exact Turns.of_kept H hr.2⟩
    · rename_i hb
      have hlb : s.base + s.many < 1099511627776 := by have := hk.b1; rw [hm, h1.b]; omega
      refine (add_any s e w h2 hok hlt hlb).mono fun r w' hr => ⟨hr.1, ?_⟩
      rw [h1.g]
      exact pO_turns h1 ⟨LogS.add_ok hok e hlt hlb, h1.g, h1.pb, by simp [LogS.add, h1.m], h1.b, by rw [LogS.add_list _ hok _ hlt, h1.l]⟩ hr.2
theorem pCut (g pb m : Nat) (A : Ab) (op : Int) (w : World) (h : (pO g pb m A).holds w) :
    Calls Try.prog 23 #[.pointer (some ⟨g, 0, none⟩), .int .i64 op] w fun r w' => r = .returned (.int .i64 (aCut A op).1) ∧ Turns w w' (pO g pb m A) (pO g pb m (aCut A op).2) := by
  have H := h
  obtain ⟨s, h1, h2⟩ := h
  have hm := h1.many
  have hk := h1.abok
  have hok := h1.ok
  unfold aCut
  rw [← h1.g]
  split
  · rename_i hf
    exact (cut_no s op w h2 hok (by rw [hm, h1.b]; exact hf)).mono fun r w' hr => ⟨hr.1, by rw [h1.g]; exact Turns.of_kept H hr.2⟩
  · rename_i hf
    have hkk : (op - A.1).toNat ≤ s.many := by rw [hm]; omega
    have hop : op = s.base + ((op - A.1).toNat : Nat) := by rw [h1.b]; omega
    refine (cut_any s (op - A.1).toNat op w h2 hok hkk hop).mono fun r w' hr => ⟨hr.1, ?_⟩
    rw [h1.g]
    refine pO_turns h1 ⟨LogS.drop_ok hok _ hkk op hop, h1.g, h1.pb, h1.m, rfl, ?_⟩ hr.2
    show (s.drop (op - A.1).toNat).list = _
    rw [LogS.drop_list _ hok _ hkk, h1.l]
theorem pReset (g pb m : Nat) (A : Ab) (b' : Int) (x : Value) (ls : List En) (A' : Option Addr) (c' : Nat) (w : World) (h : (pO g pb m A).holds w) (hx : x = .slice A' ls.length c') (hsrc : EnS w A' ls) (hfar : ∀ b off, A' = some ⟨b, off, none⟩ → 0 < ls.length → ¬ (pO g pb m A).foot b) (hl : ls.length ≤ 1152921504606846976) :
    Calls Try.prog 34 #[.pointer (some ⟨g, 0, none⟩), .int .i64 b', x] w fun r w' => r = .returned (.int .i64 (aReset m A b' ls).1) ∧ Turns w w' (pO g pb m A) (pO g pb m (aReset m A b' ls).2) := by
  have H := h
  obtain ⟨s, h1, h2⟩ := h
  have hm := h1.many
  have hk := h1.abok
  have hok := h1.ok
  unfold aReset
  rw [← h1.g]
  split
  · rename_i hf
    refine (reset_bad s b' x ls.length A' c' w hx hl hf).mono fun r w' hr => ⟨hr.1, ?_⟩
    rw [h1.g, ← hr.2]
    exact Turns.refl H
  · rename_i hf
    split
    · rename_i hg
      refine (reset_room s b' x ls.length A' c' w h2 hok hx hl (by omega) (by omega) (by omega) (by rw [h1.m]; exact hg)).mono fun r w' hr => ⟨hr.1, ?_⟩
      rw [h1.g, ← hr.2]
      exact Turns.refl H
    · rename_i hg
      refine (reset_ok s b' x ls A' c' w h2 hok hx hsrc (fun b off ha h0 hb => hfar b off ha h0 ((pO_foot h1 b).1 hb)) (by omega) (by omega) (by omega) (by rw [h1.m]; omega)).mono fun r w' hr => ⟨hr.1, ?_⟩
      obtain ⟨s', k1, k2, k3, k4, k5, k6, k7⟩ := hr.2
      rw [h1.g]
      exact pO_turns h1 ⟨k1, k5.trans h1.g, k6.trans h1.pb, k4.trans h1.m, k2, k3⟩ k7
theorem pNew (room : Nat) (w : World) (h : 1 ≤ room) (h2 : room ≤ 64) :
    Calls Try.prog 21 #[.int .i64 room] w fun r w' => ∃ g pb, r = .returned (.tuple #[.pointer (some ⟨g, 0, none⟩), .int .i64 0]) ∧ Turns w w' Own.emp (pO g pb room (0, [])) := by
  refine (new_yes room w h h2).mono ?_
  rintro r w' ⟨g, pb, rfl, ht⟩
  exact ⟨g, pb, rfl, pO_new ⟨⟨by simpa using h, by simpa using h2, by simp; omega, by simp, by simp, by simp⟩, rfl, rfl, by simp, rfl, by simp [LogS.list]⟩ ht⟩
theorem pClone (g pb m : Nat) (A : Ab) (w : World) (h : (pO g pb m A).holds w) :
    Calls Try.prog 36 #[.pointer (some ⟨g, 0, none⟩)] w fun r w' => ∃ g' pb', r = .returned (.pointer (some ⟨g', 0, none⟩)) ∧ Turns w w' Own.emp (pO g' pb' m A) := by
  obtain ⟨s, h1, h2⟩ := h
  rw [← h1.g]
  refine (clone_any s w h2 h1.ok).mono ?_
  rintro r w' ⟨g', pb', rfl, ht⟩
  have hok := h1.ok
  exact ⟨g', pb', rfl, pO_new (s' := { s with g := g', pb := pb' }) ⟨⟨hok.r1, hok.r64, hok.f, hok.m, hok.b0, hok.b1⟩, rfl, rfl, h1.m, h1.b, h1.l⟩ ht⟩
theorem rAdd (g m : Nat) (v : Value) (A : Ab) (e : En) (w : World) (h : (qO g m v A).holds w) (hk : A.Ok m) :
    Calls Try.prog 30 #[.pointer (some ⟨g, 0, none⟩), .agg e.cells.toArray] w fun r w' => r = .returned (.int .i64 (aAdd m A e).1) ∧ ∃ v', Turns w w' (qO g m v A) (qO g m v' (aAdd m A e).2) := by
  unfold aAdd
  split
  · rename_i hf
    exact (radd_full g m A.1 v A.2 e w h hk.m64 hf).mono fun r w' hr => ⟨hr.1, v, Turns.of_kept h hr.2⟩
  · rename_i hf
    have hlt : A.2.length < m := by have := hk.len; omega
    split
    · rename_i hb
      exact (radd_end g m A.1 v A.2 e w h hk.m64 hlt hb).mono fun r w' hr => ⟨hr.1, v, Turns.of_kept h hr.2⟩
    · rename_i hb
      refine (radd_ok g m A.1 v A.2 e w h hk.m64 hlt hk.b0 (by have := hk.b1; omega)).mono ?_
      rintro r w' ⟨v', hr, ht⟩
      exact ⟨hr, v', ht⟩
theorem rCut (g m : Nat) (v : Value) (A : Ab) (op : Int) (w : World) (h : (qO g m v A).holds w) (hk : A.Ok m) :
    Calls Try.prog 33 #[.pointer (some ⟨g, 0, none⟩), .int .i64 op] w fun r w' => r = .returned (.int .i64 (aCut A op).1) ∧ ∃ v', Turns w w' (qO g m v A) (qO g m v' (aCut A op).2) := by
  have h1 := hk.len
  have h2 := hk.m64
  have h3 := hk.b1
  unfold aCut
  split
  · rename_i hf
    exact (rcut_no g m A.1 v A.2 op w h (by omega) hk.b0 (by omega) hf).mono fun r w' hr => ⟨hr.1, v, Turns.of_kept h hr.2⟩
  · rename_i hf
    exact rcut_ok g m A.1 v A.2 (op - A.1).toNat op w h (by omega) hk.b0 h3 (by omega) (by omega)
theorem rReset (g m : Nat) (v : Value) (A : Ab) (b' : Int) (x : Value) (ls : List En) (A' : Option Addr) (c' : Nat) (w : World) (h : (qO g m v A).holds w) (hk : A.Ok m) (hx : x = .slice A' ls.length c') (hsrc : EnS w A' ls) (hl : ls.length ≤ 1152921504606846976) :
    Calls Try.prog 35 #[.pointer (some ⟨g, 0, none⟩), .int .i64 b', x] w fun r w' => r = .returned (.int .i64 (aReset m A b' ls).1) ∧ ∃ v', Turns w w' (qO g m v A) (qO g m v' (aReset m A b' ls).2) := by
  unfold aReset
  split
  · rename_i hf
    refine (rreset_bad g m A.1 v A.2 b' x ls.length A' c' w h hx hl hf).mono fun r w' hr => ⟨hr.1, v, ?_⟩
    rw [← hr.2]
    exact Turns.refl h
  · rename_i hf
    split
    · rename_i hg
      refine (rreset_room g m A.1 v A.2 b' x ls.length A' c' w h hk.m64 hx hl (by omega) (by omega) (by omega) hg).mono fun r w' hr => ⟨hr.1, v, ?_⟩
      rw [← hr.2]
      exact Turns.refl h
    · rename_i hg
      exact rreset_ok g m A.1 v A.2 b' x ls A' c' w h hk.m64 hx (by rw [hx]; exact hsrc.src) (by omega) (by omega) (by omega) (by omega)
theorem rNew (room : Nat) (w : World) (h : 1 ≤ room) (h2 : room ≤ 64) :
    Calls Try.prog 28 #[.int .i64 room] w fun r w' => ∃ g, r = .returned (.tuple #[.pointer (some ⟨g, 0, none⟩), .int .i64 0]) ∧ Turns w w' Own.emp (qO g room (.slice none 0 0) (0, [])) := rnew_yes room w h h2
theorem rClone (g m : Nat) (v : Value) (A : Ab) (w : World) (h : (qO g m v A).holds w) (hk : A.Ok m) :
    Calls Try.prog 31 #[.pointer (some ⟨g, 0, none⟩)] w fun r w' => ∃ g' v', r = .returned (.pointer (some ⟨g', 0, none⟩)) ∧ Turns w w' Own.emp (qO g' m v' A) := rclone_any g m A.1 v A.2 w h (by have := hk.len; have := hk.m64; omega)
end Go.Proofs.Ytpaaghbmlenlfaa.Ol
