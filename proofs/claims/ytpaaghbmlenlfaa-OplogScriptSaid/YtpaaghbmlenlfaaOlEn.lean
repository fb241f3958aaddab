/- Entries as cells; a log of the program: its two blocks; what its list is. Plain. -/
import Derived.Test.YtpaaghbmlenlfaaSp
import Derived.Test.YtpaaghbmlenlfaaArg
import Derived.Deep.MidRow
namespace Go.Proofs.Ytpaaghbmlenlfaa.Ol
open Go.RowKit Go.Hp
set_option linter.unusedSimpArgs false
set_option linter.unusedVariables false

structure En where
  c : Int
  n : Int
  k : Int
  nm : ByteArray
  tx : ByteArray
  nu : Int
  mo : Int
def En.cells (e : En) : List Value := [.int .i64 e.c, .int .i64 e.n, .int .i64 e.k, .string e.nm, .string e.tx, .int .i64 e.nu, .int .i64 e.mo]
def En.zero : En := ⟨0, 0, 0, ByteArray.empty, ByteArray.empty, 0, 0⟩
instance : Inhabited En := ⟨En.zero⟩
theorem En.len (e : En) : e.cells.length = 7 := rfl
theorem En.one (e : En) : ∀ v ∈ e.cells, v.oneCell' = true := by
  intro v hv
  simp only [En.cells, List.mem_cons, List.not_mem_nil, or_false] at hv
  rcases hv with rfl | rfl | rfl | rfl | rfl | rfl | rfl <;> rfl

def flat (l : List En) : List Value := l.flatMap En.cells
theorem flat_nil : flat [] = [] := rfl
theorem flat_cons (e : En) (l : List En) : flat (e :: l) = e.cells ++ flat l := rfl
theorem flat_append (l m : List En) : flat (l ++ m) = flat l ++ flat m := by simp [flat]
theorem flat_one (e : En) : flat [e] = e.cells := by simp [flat]
theorem flat_len (l : List En) : (flat l).length = l.length * 7 := by
  induction l with
  | nil => rfl
  | cons e l ih => rw [flat_cons, List.length_append, ih, En.len, List.length_cons]; omega
theorem flat_get (l : List En) : ∀ (i : Nat) (e : En), l[i]? = some e → ∀ j u, e.cells[j]? = some u → (flat l)[i * 7 + j]? = some u := by
  induction l with
  | nil => intro i e h; simp at h
  | cons a l ih =>
    intro i e h j u hu
    have hj : j < 7 := by have := (List.getElem?_eq_some_iff.1 hu).1; rw [En.len] at this; exact this
    rw [flat_cons]
    cases i with
    | zero =>
      simp at h
      subst h
      rw [List.getElem?_append_left (by rw [En.len]; omega)]
      simpa using hu
    | succ i =>
      rw [List.getElem?_append_right (by rw [En.len]; omega), En.len, show (i + 1) * 7 + j - 7 = i * 7 + j by omega]
      exact ih i e (by simpa using h) j u hu
theorem flat_one_cell (l : List En) : ∀ v ∈ flat l, v.oneCell' = true := by
  intro v hv
  obtain ⟨e, _, h⟩ := List.mem_flatMap.1 hv
  exact e.one v h

theorem setMany_getElem? (vs : List Value) : ∀ (o : Nat) (cs : Array Value) (i : Nat), o + vs.length ≤ cs.size → ((vs.zipIdx o).foldl (fun (a : Array Value) p => a.setIfInBounds p.2 p.1) cs)[i]? = if o ≤ i ∧ i < o + vs.length then vs[i - o]? else cs[i]? := by
  induction vs with
  | nil => intro o cs i h; simp; intro h1 h2; omega
  | cons v r ih =>
    intro o cs i h
    simp only [List.length_cons] at h
    rw [List.zipIdx_cons, List.foldl_cons, ih (o + 1) _ i (by simp; omega)]
    simp only [List.length_cons, Array.getElem?_setIfInBounds]
    by_cases h1 : o + 1 ≤ i ∧ i < o + 1 + r.length
    · rw [if_pos h1, if_pos ⟨by omega, by omega⟩, show i - o = (i - (o + 1)) + 1 by omega, List.getElem?_cons_succ]
    · rw [if_neg h1]
      by_cases h2 : i = o
      · subst h2
        rw [if_pos rfl, if_pos (by omega), if_pos ⟨Nat.le_refl _, by omega⟩]
        simp
      · rw [if_neg (by omega), if_neg (by omega)]

theorem setCells_blk {b : Nat} {T : TypeId} (vs : List Value) : ∀ (o : Nat) (w : World) (cs : Array Value), Blk w b cs T → Blk (w.setCells b o vs) b ((vs.zipIdx o).foldl (fun (a : Array Value) p => a.setIfInBounds p.2 p.1) cs) T := by
  induction vs with
  | nil => intro o w cs h; exact h
  | cons v r ih =>
    intro o w cs h
    rw [World.setCells, List.zipIdx_cons, List.foldl_cons]
    exact ih (o + 1) _ _ (h.set o v)
theorem setCells_size (b : Nat) (vs : List Value) : ∀ (o : Nat) (w : World), (w.setCells b o vs).heap.size = w.heap.size := by
  induction vs with
  | nil => intro o w; rfl
  | cons v r ih => intro o w; rw [World.setCells, ih]; simp [World.setCell]
theorem setCells_chg (b : Nat) (vs : List Value) : ∀ (o : Nat) (w : World), Chg (· = b) w (w.setCells b o vs) := by
  induction vs with
  | nil => intro o w; exact Chg.refl _ _
  | cons v r ih =>
    intro o w
    rw [World.setCells]
    exact (Chg.set (S := (· = b)) (Chg.refl _ w) (p := ⟨b, o, none⟩) (Or.inr rfl) v).trans (ih _ _)
theorem set_flat (l : List En) (i : Nat) (e : En) (hi : i < l.length) (a : List Value) (ha : a = e.cells) :
    ((a.zipIdx (i * 7)).foldl (fun (a : Array Value) p => a.setIfInBounds p.2 p.1) (flat l).toArray) = (flat (l.set i e)).toArray := by
  subst ha
  apply Array.ext_getElem?
  intro q
  rw [setMany_getElem? _ _ _ _ (by rw [En.len, List.size_toArray, flat_len]; omega)]
  rw [En.len]
  simp only [List.getElem?_toArray]
  by_cases hq : q < l.length * 7
  · have h1 : q = q / 7 * 7 + q % 7 := by omega
    have hql : q / 7 < l.length := by omega
    split
    · rename_i h2
      have h3 : q / 7 = i := by omega
      obtain ⟨u, hu⟩ : ∃ u, e.cells[q - i * 7]? = some u := ⟨e.cells[q - i * 7]'(by rw [En.len]; omega), List.getElem?_eq_getElem _⟩
      rw [hu]
      have := flat_get (l.set i e) i e (by simp [hi]) (q - i * 7) u hu
      rw [show i * 7 + (q - i * 7) = q by omega] at this
      exact this.symm
    · rename_i h2
      have h3 : i ≠ q / 7 := by omega
      obtain ⟨x, hx⟩ : ∃ x, l[q / 7]? = some x := ⟨l[q / 7], List.getElem?_eq_getElem hql⟩
      obtain ⟨u, hu⟩ : ∃ u, x.cells[q % 7]? = some u := ⟨x.cells[q % 7]'(by rw [En.len]; omega), List.getElem?_eq_getElem _⟩
      have e1 := flat_get l (q / 7) x hx (q % 7) u hu
      have e2 := flat_get (l.set i e) (q / 7) x (by rw [List.getElem?_set_ne h3]; exact hx) (q % 7) u hu
      rw [← h1] at e1 e2
      rw [e1, e2]
  · rw [if_neg (by omega), List.getElem?_eq_none (by rw [flat_len]; omega), List.getElem?_eq_none (by rw [flat_len, List.length_set]; omega)]

theorem flat_zero (n : Nat) : (madeCells En.zero.cells.toArray (n * 7)).toList = flat (List.replicate n En.zero) := by
  apply List.ext_getElem?
  intro q
  by_cases hq : q < n * 7
  · have hql : q / 7 < n := by omega
    have hx : (List.replicate n En.zero)[q / 7]? = some En.zero := by simp [hql]
    obtain ⟨u, hu⟩ : ∃ u, En.zero.cells[q % 7]? = some u := ⟨En.zero.cells[q % 7]'(by rw [En.len]; omega), List.getElem?_eq_getElem _⟩
    have h1 := flat_get _ (q / 7) _ hx (q % 7) u hu
    rw [show q / 7 * 7 + q % 7 = q by omega] at h1
    rw [h1]
    have h2 : q % 7 < En.zero.cells.toArray.size := by rw [List.size_toArray, En.len]; omega
    simp [madeCells, hq, En.len, hu]
  · rw [List.getElem?_eq_none (by simp [madeCells]; omega), List.getElem?_eq_none (by rw [flat_len]; simp; omega)]
theorem row_full {w : World} {B : Nat} {E : TypeId} {size n g : Nat} {xs : List Value} (h : w.ownsRow B E size (.slice (some ⟨g, 0, none⟩) n n) n xs) : Blk w g xs.toArray E := by
  rcases h.2 with ⟨h', _⟩ | ⟨g', cap', cur, h', _, hg, _, _, hcs, htake⟩
  · simp at h'
  · simp only [Value.slice.injEq, Option.some.injEq, Addr.mk.injEq, and_true, true_and] at h'
    obtain ⟨rfl, rfl⟩ := h'
    rw [List.take_of_length_le (by rw [Array.length_toList, hcs]; exact Nat.le_refl _)] at htake
    rw [← htake]
    unfold Blk
    simpa using hg
/-- A log of the program. -/
structure LogS where
  g : Nat
  pb : Nat
  base : Int
  first : Nat
  many : Nat
  es : List En
structure LogS.ok (s : LogS) : Prop where
  r1 : 1 ≤ s.es.length
  r64 : s.es.length ≤ 64
  f : s.first < s.es.length
  m : s.many ≤ s.es.length
  b0 : 0 ≤ s.base
  b1 : s.base + s.many ≤ 1099511627776
def LogS.own (s : LogS) : Own :=
  Own.both (Own.blk s.g #[.int .i64 s.base, .slice (some ⟨s.pb, 0, none⟩) s.es.length s.es.length, .int .i64 s.first, .int .i64 s.many] 86) (Own.blk s.pb (flat s.es).toArray 51)
/-- The entries, the first of them ahead. -/
def LogS.list (s : LogS) : List En := (List.range s.many).map fun i => s.es.getD ((s.first + i) % s.es.length) default
theorem LogS.list_len (s : LogS) : s.list.length = s.many := by simp [LogS.list]
theorem LogS.list_get (s : LogS) (h : s.ok) (i : Nat) (hi : i < s.many) : s.list[i]? = s.es[(s.first + i) % s.es.length]? := by
  have hm : (s.first + i) % s.es.length < s.es.length := Nat.mod_lt _ (by have := h.r1; omega)
  simp [LogS.list, hi, List.getElem?_eq_getElem hm]
def LogS.add (s : LogS) (e : En) : LogS := { s with many := s.many + 1, es := s.es.set ((s.first + s.many) % s.es.length) e }
theorem mod_ne {a i m n : Nat} (hi : i < m) (hm : m < n) : (a + i) % n ≠ (a + m) % n := by
  intro h
  have h1 : ((a + m) - (a + i)) % n = 0 := Nat.sub_mod_eq_zero_of_mod_eq h.symm
  rw [show (a + m) - (a + i) = m - i by omega, Nat.mod_eq_of_lt (by omega)] at h1
  omega
theorem LogS.add_list (s : LogS) (h : s.ok) (e : En) (hm : s.many < s.es.length) : (s.add e).list = s.list ++ [e] := by
  have hn : 0 < s.es.length := by omega
  apply List.ext_getElem?
  intro i
  by_cases h1 : i < s.many
  · rw [List.getElem?_append_left (by rw [s.list_len]; exact h1)]
    have hx := mod_ne (a := s.first) h1 hm
    have hl : (s.first + i) % s.es.length < s.es.length := Nat.mod_lt _ hn
    simp [LogS.list, LogS.add, h1, Nat.lt_succ_of_lt h1, List.getElem?_set_ne (Ne.symm hx)]
  · by_cases h2 : i = s.many
    · subst h2
      rw [List.getElem?_append_right (by rw [s.list_len]; omega), s.list_len]
      have hl : (s.first + s.many) % s.es.length < s.es.length := Nat.mod_lt _ hn
      simp [LogS.list, LogS.add, hl]
    · rw [List.getElem?_eq_none (by rw [LogS.list_len]; simp [LogS.add]; omega), List.getElem?_eq_none (by simp [s.list_len]; omega)]
theorem LogS.add_ok {s : LogS} (h : s.ok) (e : En) (hm : s.many < s.es.length) (hb : s.base + s.many < 1099511627776) : (s.add e).ok :=
  ⟨by simpa [LogS.add] using h.r1, by simpa [LogS.add] using h.r64, by simpa [LogS.add] using h.f, by simp [LogS.add]; omega, h.b0, by simp [LogS.add]; omega⟩
theorem LogS.own_ne {s : LogS} {w : World} (h : s.own.holds w) : s.g ≠ s.pb := fun e => h.2.2 s.g rfl e
theorem LogS.add_turns {s : LogS} {w W0 : World} (h0 : Turns w W0 s.own s.own) (hok : s.ok) (e : En) (ix : Nat) (hix : ix = (s.first + s.many) % s.es.length) :
    Turns w ((W0.setCells s.pb (ix * 7) e.cells).setCell ⟨s.g, 3, none⟩ (.int .i64 (s.many + 1))) s.own (s.add e).own := by
  have hil : ix < s.es.length := by rw [hix]; exact Nat.mod_lt _ (by have := hok.r1; omega)
  have hne := LogS.own_ne h0.now
  have b1 : Blk (W0.setCells s.pb (ix * 7) e.cells) s.pb (flat (s.es.set ix e)).toArray 51 := by
    rw [← set_flat s.es ix e hil _ rfl]
    exact setCells_blk _ _ _ _ h0.now.2.1
  have b2 := Blk.chg h0.now.1 (setCells_chg s.pb e.cells (ix * 7) W0) (fun e => hne e)
  refine ⟨?_, ⟨?_, ?_, ?_⟩, ?_⟩
  · refine Chg.set ?_ (Or.inr (Or.inl rfl)) _
    exact h0.chg.trans ((setCells_chg s.pb e.cells (ix * 7) W0).mono fun k _ hk => Or.inr hk)
  · have := b2.set 3 (.int .i64 (s.many + 1))
    show Blk _ s.g #[.int .i64 s.base, .slice (some ⟨s.pb, 0, none⟩) (s.add e).es.length (s.add e).es.length, .int .i64 s.first, .int .i64 ((s.many + 1 : Nat) : Int)] 86
    simpa [LogS.add] using this
  · show Blk _ s.pb (flat (s.add e).es).toArray 51
    have := b1.set_ne (a := ⟨s.g, 3, none⟩) (Ne.symm hne) (.int .i64 (s.many + 1))
    simpa [LogS.add, hix] using this
  · exact h0.now.2.2
  · exact fun b hb => Or.inl hb
/-- The first k go. -/
def LogS.drop (s : LogS) (k : Nat) : LogS := { s with first := (s.first + k) % s.es.length, many := s.many - k }
theorem LogS.drop_turns {s : LogS} {w W0 : World} (h0 : Turns w W0 s.own s.own) (k : Nat) (hk : k ≤ s.many) :
    Turns w ((W0.setCell ⟨s.g, 2, none⟩ (.int .i64 ((s.first + k) % s.es.length : Nat))).setCell ⟨s.g, 3, none⟩ (.int .i64 ((s.many : Int) - (k : Int)))) s.own (s.drop k).own := by
  have hne := LogS.own_ne h0.now
  have b1 := (Blk.set h0.now.1 2 (.int .i64 ((s.first + k) % s.es.length : Nat))).set 3 (.int .i64 ((s.many : Int) - (k : Int)))
  have b2 := (Blk.set_ne h0.now.2.1 (a := ⟨s.g, 2, none⟩) (Ne.symm hne) (.int .i64 ((s.first + k) % s.es.length : Nat))).set_ne (a := ⟨s.g, 3, none⟩) (Ne.symm hne) (.int .i64 ((s.many : Int) - (k : Int)))
  refine ⟨?_, ⟨?_, b2, h0.now.2.2⟩, fun b hb => Or.inl hb⟩
  · exact Chg.set (Chg.set h0.chg (p := ⟨s.g, 2, none⟩) (Or.inr (Or.inl rfl)) _) (p := ⟨s.g, 3, none⟩) (Or.inr (Or.inl rfl)) _
  · show Blk _ s.g #[.int .i64 s.base, .slice (some ⟨s.pb, 0, none⟩) s.es.length s.es.length, .int .i64 ((s.first + k) % s.es.length : Nat), .int .i64 ((s.many - k : Nat) : Int)] 86
    rw [Int.ofNat_sub hk]
    simpa using b1
theorem LogS.base_turns {s : LogS} {w W0 : World} {O : Own} (h0 : Turns w W0 O s.own) (b : Int) : Turns w (W0.setCell ⟨s.g, 0, none⟩ (.int .i64 b)) O ({ s with base := b } : LogS).own := by
  have hne := LogS.own_ne h0.now
  have b1 := Blk.set h0.now.1 0 (.int .i64 b)
  have b2 := Blk.set_ne h0.now.2.1 (a := ⟨s.g, 0, none⟩) (Ne.symm hne) (.int .i64 b)
  refine h0.trans ⟨Chg.set (Chg.refl _ _) (p := ⟨s.g, 0, none⟩) (Or.inr (Or.inl rfl)) _, ⟨?_, b2, h0.now.2.2⟩, fun b hb => Or.inl hb⟩
  show Blk _ s.g #[.int .i64 b, .slice (some ⟨s.pb, 0, none⟩) s.es.length s.es.length, .int .i64 s.first, .int .i64 s.many] 86
  simpa using b1
theorem LogS.drop_list (s : LogS) (h : s.ok) (k : Nat) (hk : k ≤ s.many) : (s.drop k).list = s.list.drop k := by
  have hn : 0 < s.es.length := by have := h.r1; omega
  apply List.ext_getElem?
  intro i
  rw [List.getElem?_drop]
  by_cases h1 : i < s.many - k
  · have : ((s.first + k) % s.es.length + i) % s.es.length = (s.first + (k + i)) % s.es.length := by
      rw [Nat.mod_add_mod, Nat.add_assoc]
    simp [LogS.list, LogS.drop, h1, Nat.mod_add_mod, Nat.add_assoc, show k + i < s.many by omega]
  · rw [List.getElem?_eq_none (by rw [LogS.list_len]; simp [LogS.drop]; omega), List.getElem?_eq_none (by rw [s.list_len]; omega)]
theorem LogS.drop_ok {s : LogS} (h : s.ok) (k : Nat) (hk : k ≤ s.many) (b : Int) (hb : b = s.base + k) : ({ s.drop k with base := b } : LogS).ok := by
  subst hb
  exact ⟨h.r1, h.r64, Nat.mod_lt _ (by have := h.r1; omega), by have := h.m; simp [LogS.drop]; omega, by have := h.b0; simp; omega, by have := h.b1; simp [LogS.drop]; omega⟩
theorem LogS.base_list (s : LogS) (b : Int) : ({ s with base := b } : LogS).list = s.list := rfl
end Go.Proofs.Ytpaaghbmlenlfaa.Ol
