/- The law's kept lists of entries: they are written all over, and grow. -/
import Derived.Test.YtpaaghbmlenlfaaOlSb
namespace Go.Proofs.Ytpaaghbmlenlfaa.Ol
open Go.Hp.M7
open Go.RowKit Go.Hp
attribute [local go_sem] min2_lean min_two max2_lean max_two
set_option linter.unusedSimpArgs false
set_option linter.unusedVariables false
set_option maxRecDepth 100000
theorem flat_put (l : List En) (i : Nat) (e : En) (hi : i < l.length) :
    ((((((((flat l).set (i * 7) (.int .i64 e.c)).set (i * 7 + 1) (.int .i64 e.n)).set (i * 7 + 2) (.int .i64 e.k)).set (i * 7 + 3) (.string e.nm)).set (i * 7 + 4) (.string e.tx)).set (i * 7 + 5) (.int .i64 e.nu)).set (i * 7 + 6) (.int .i64 e.mo)) = flat (l.set i e) := by
  have h := set_flat l i e hi _ rfl
  simp only [En.cells, List.zipIdx_cons, List.zipIdx_nil, List.foldl_cons, List.foldl_nil, List.setIfInBounds_toArray] at h
  exact congrArg Array.toList h
/-- An entry is laid into a row. -/
theorem row_put {w : World} {g n c : Nat} {l : List En} (h : w.ownsRow 0 51 7 (.slice (some ⟨g, 0, none⟩) n c) n (flat l)) (i : Nat) (e : En) (hi : i < l.length) :
    Turns w (((((((w.setCell ⟨g, i * 7, none⟩ (.int .i64 e.c)).setCell ⟨g, i * 7 + 1, none⟩ (.int .i64 e.n)).setCell ⟨g, i * 7 + 2, none⟩ (.int .i64 e.k)).setCell ⟨g, i * 7 + 3, none⟩ (.string e.nm)).setCell ⟨g, i * 7 + 4, none⟩ (.string e.tx)).setCell ⟨g, i * 7 + 5, none⟩ (.int .i64 e.nu)).setCell ⟨g, i * 7 + 6, none⟩ (.int .i64 e.mo))
      (Hp.Own.row 51 7 (.slice (some ⟨g, 0, none⟩) n c) n (flat l)) (Hp.Own.row 51 7 (.slice (some ⟨g, 0, none⟩) n c) n (flat (l.set i e))) := by
  rw [← flat_put l i e hi]
  have t0 := Turns.row_set h (i * 7) (.int .i64 e.c)
  have t1 := t0.trans (Turns.row_set t0.now (i * 7 + 1) (.int .i64 e.n))
  have t2 := t1.trans (Turns.row_set t1.now (i * 7 + 2) (.int .i64 e.k))
  have t3 := t2.trans (Turns.row_set t2.now (i * 7 + 3) (.string e.nm))
  have t4 := t3.trans (Turns.row_set t3.now (i * 7 + 4) (.string e.tx))
  have t5 := t4.trans (Turns.row_set t4.now (i * 7 + 5) (.int .i64 e.nu))
  exact t5.trans (Turns.row_set t5.now (i * 7 + 6) (.int .i64 e.mo))
/-- The cells of an entry in a row. -/
theorem row_en {w : World} {g n c : Nat} {l : List En} (h : w.ownsRow 0 51 7 (.slice (some ⟨g, 0, none⟩) n c) n (flat l)) {i : Nat} {e : En} (he : l[i]? = some e) :
    (w.cell? ⟨g, i * 7, none⟩ = some (.int .i64 e.c) ∧ w.cell? ⟨g, i * 7 + 1, none⟩ = some (.int .i64 e.n) ∧ w.cell? ⟨g, i * 7 + 2, none⟩ = some (.int .i64 e.k) ∧ w.cell? ⟨g, i * 7 + 3, none⟩ = some (.string e.nm) ∧ w.cell? ⟨g, i * 7 + 4, none⟩ = some (.string e.tx) ∧ w.cell? ⟨g, i * 7 + 5, none⟩ = some (.int .i64 e.nu) ∧ w.cell? ⟨g, i * 7 + 6, none⟩ = some (.int .i64 e.mo)) ∧
    (∀ j, j < 7 → w.frozen? ⟨g, i * 7 + j, none⟩ = false) ∧ g < w.heap.size := by
  have hk := fun (j : Nat) (u : Value) (hu : e.cells[j]? = some u) => (row_cell h (i * 7 + j) (flat_get l i e he j u hu))
  refine ⟨⟨(hk 0 _ rfl).1, (hk 1 _ rfl).1, (hk 2 _ rfl).1, (hk 3 _ rfl).1, (hk 4 _ rfl).1, (hk 5 _ rfl).1, (hk 6 _ rfl).1⟩, fun j hj => ?_, row_lt h⟩
  exact (hk j (e.cells[j]'(by rw [En.len]; exact hj)) (List.getElem?_eq_getElem _)).2
theorem KM.putO {k : KM} {w w' : World} {SE E : TypeId} {i : Nat} {zs : List Value} (h : (k.own SE E).holds w) (hi : k.fr i = true) (t : Turns w w' (Hp.Own.row E 7 (k.out i) (k.len i) (k.xs i)) (Hp.Own.row E 7 (k.out i) (k.len i) zs)) :
    Turns w w' (k.own SE E) (Hp.Own.fam (upd (k.fam SE E) (.o i) (Hp.Own.row E 7 (k.out i) (k.len i) zs))) := Turns.famE h (.o i) (by simp [KM.fam, hi]) t
theorem KM.putC {k : KM} {w w' : World} {SE E : TypeId} {i : Nat} {zs : List Value} (h : (Hp.Own.fam (upd (k.fam SE E) (.o i) (Hp.Own.row E 7 (k.out i) (k.len i) zs))).holds w) (hi : k.fr i = true) (t : Turns w w' (Hp.Own.row E 7 (k.want i) (k.len i) (k.xs i)) (Hp.Own.row E 7 (k.want i) (k.len i) zs)) :
    Turns w w' (Hp.Own.fam (upd (k.fam SE E) (.o i) (Hp.Own.row E 7 (k.out i) (k.len i) zs))) ((k.put i zs).own SE E) :=
  (Turns.famE h (.c i) (by simp [upd, KM.fam, hi]) t).to (Own.fam_as (KM.marked k SE E i hi _))
theorem Gd.set {xs : List Value} (h : Gd xs) {l : List En} (_ : xs = flat l) (j : Nat) (e : En) : Gd (flat (l.set j e)) := ⟨_, rfl⟩
theorem Gd.snoc {xs : List Value} (h : Gd xs) (e : En) : Gd (xs ++ e.cells) := by
  obtain ⟨l, rfl⟩ := h
  exact ⟨l ++ [e], by rw [flat_append, flat_one]⟩
def Oky (k : KM) : Prop := ∀ i, i < k.M → Gd (k.xs i) ∧ k.len i ≤ (if k.fr i = true then 900000 else 1000000)
theorem Oky.okk {k : KM} (h : Oky k) : Okk k := fun i hi => ⟨(h i hi).1, by have := (h i hi).2; split at this <;> omega⟩
theorem Oky.put {k : KM} (h : Oky k) (i : Nat) {zs : List Value} (hz : Gd zs) : Oky (k.put i zs) := fun x hx => by
  refine ⟨?_, (h x hx).2⟩
  show Gd (if x = i then zs else k.xs x)
  split
  · exact hz
  · exact (h x hx).1
theorem Oky.grow {k : KM} {lo hi : Nat} (h : Oky k) (hw : k.Wf lo hi) (i : Nat) (ov wv x y : Value) {n : Nat} {zs : List Value} (hz : Gd zs) (hn : n ≤ 1000000) : Oky (k.grow i ov wv x y n zs) := fun j hj => by
  have hj : j < k.M + 1 := hj
  show Gd (if j = k.M then zs else k.xs j) ∧ (if j = k.M then n else k.len j) ≤ (if (if j = i then false else k.fr j) = true then 900000 else 1000000)
  by_cases e : j = k.M
  · rw [if_pos e, if_pos e, hw.no (by omega : k.M ≤ j)]
    exact ⟨hz, by simpa using hn⟩
  · rw [if_neg e, if_neg e]
    obtain ⟨a, b⟩ := h j (by omega)
    refine ⟨a, ?_⟩
    by_cases ei : j = i
    · rw [if_pos ei]
      by_cases ef : k.fr j = true
      · rw [if_pos ef] at b
        simp
        omega
      · rw [if_neg ef] at b
        simpa using b
    · rw [if_neg ei]
      exact b
theorem bO_at {g : Nat} {av bv : Value} {f : Nat} {k : KM} {w : World} (h : (bO g av bv f k).holds w) {M : Nat} (hM : k.M = M) {Ao Aw : Option Addr} {co cw : Nat} (hov : k.ov = .slice Ao M co) (hwv : k.wv = .slice Aw M cw) :
    w.cell? ⟨g, 2, none⟩ = some (.slice Ao M co) ∧ w.cell? ⟨g, 3, none⟩ = some (.slice Aw M cw) ∧ w.cell? ⟨g, 4, none⟩ = some (.int .i64 (f : Nat)) ∧ w.frozen? ⟨g, 4, none⟩ = false ∧ g < w.heap.size := by
  obtain ⟨-, -, b2, b3, b4, -, -, -, -, f4, hl⟩ := h.1.five
  rw [hov] at b2
  rw [hwv] at b3
  exact ⟨b2, b3, b4, f4, hl⟩
end Go.Proofs.Ytpaaghbmlenlfaa.Ol
