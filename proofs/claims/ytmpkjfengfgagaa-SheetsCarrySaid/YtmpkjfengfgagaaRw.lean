/- Rows whose elements have several cells: the cells as one list of lists. -/
import Derived.Test.YtmpkjfengfgagaaKt
namespace Go.Hp
open Go.RowKit Go.Hp
set_option linter.unusedSimpArgs false
set_option linter.unusedVariables false
/-- All elements have s cells. -/
def Wd (s : Nat) (L : List (List Value)) : Prop := ∀ x ∈ L, x.length = s
theorem fl_len {s : Nat} : ∀ {L : List (List Value)}, Wd s L → L.flatten.length = L.length * s
  | [], _ => by simp
  | x :: t, h => by
    rw [List.flatten_cons, List.length_append, fl_len (fun y hy => h y (List.mem_cons_of_mem _ hy)), h x (List.mem_cons_self ..), List.length_cons, Nat.succ_mul, Nat.add_comm]
theorem fl_get {s : Nat} : ∀ {L : List (List Value)}, Wd s L → ∀ {i j : Nat} {x : List Value} {u : Value}, L[i]? = some x → x[j]? = some u → L.flatten[i * s + j]? = some u
  | [], _, i, j, x, u, hi, hj => by simp at hi
  | y :: t, h, i, j, x, u, hi, hj => by
    have hy := h y (List.mem_cons_self ..)
    have hjs : j < x.length := (List.getElem?_eq_some_iff.1 hj).1
    rw [List.flatten_cons]
    cases i with
    | zero =>
      have : y = x := by simpa using hi
      subst this
      rw [Nat.zero_mul, Nat.zero_add, List.getElem?_append_left hjs]
      exact hj
    | succ i =>
      have hi' : t[i]? = some x := by simpa using hi
      have hr := fl_get (fun z hz => h z (List.mem_cons_of_mem _ hz)) hi' hj
      rw [List.getElem?_append_right (by rw [hy, Nat.succ_mul]; omega), hy, show (i + 1) * s + j - s = i * s + j by rw [Nat.succ_mul]; omega]
      exact hr
theorem fl_set {s : Nat} : ∀ {L : List (List Value)}, Wd s L → ∀ {i j : Nat} {x : List Value} {v : Value}, L[i]? = some x → j < s → L.flatten.set (i * s + j) v = (L.set i (x.set j v)).flatten
  | [], _, i, j, x, v, hi, hj => by simp at hi
  | y :: t, h, i, j, x, v, hi, hj => by
    have hy := h y (List.mem_cons_self ..)
    rw [List.flatten_cons]
    cases i with
    | zero =>
      have : y = x := by simpa using hi
      subst this
      rw [Nat.zero_mul, Nat.zero_add, List.set_append_left _ _ (by omega)]
      rfl
    | succ i =>
      have hi' : t[i]? = some x := by simpa using hi
      rw [List.set_append_right _ _ (by rw [hy, Nat.succ_mul]; omega), hy, show (i + 1) * s + j - s = i * s + j by rw [Nat.succ_mul]; omega, fl_set (fun z hz => h z (List.mem_cons_of_mem _ hz)) hi' hj]
      rfl
theorem fl_snoc (L : List (List Value)) (x : List Value) : L.flatten ++ x = (L ++ [x]).flatten := by simp
theorem Wd.snoc {s : Nat} {L : List (List Value)} (h : Wd s L) {x : List Value} (hx : x.length = s) : Wd s (L ++ [x]) := fun y hy => by
  rcases List.mem_append.1 hy with hy | hy
  · exact h y hy
  · rw [List.mem_singleton.1 hy]; exact hx
/-- A cell of a row that owns its block. -/
theorem row_cell {w : World} {g n c s : Nat} {E : TypeId} {xs : List Value} (h : w.ownsRow 0 E s (.slice (some ⟨g, 0, none⟩) n c) n xs) (j : Nat) {u : Value} (hu : xs[j]? = some u) :
    w.cell? ⟨g, j, none⟩ = some u ∧ w.frozen? ⟨g, j, none⟩ = false := by
  have hjl : j < n * s := by have := (List.getElem?_eq_some_iff.1 hu).1; have := h.1; omega
  refine ⟨?_, ?_⟩
  · have := World.ownsRow.cells (g := g) h rfl j u hu
    have ha : (⟨g, 0, none⟩ : Addr).add j = ⟨g, j, none⟩ := by unfold Addr.add; split <;> simp_all
    rwa [ha] at this
  · rcases h.2 with ⟨_, h0⟩ | ⟨g', cap, cur, hv, _, hg, _⟩
    · subst h0
      simp at hjl
    · obtain ⟨e1, _, _⟩ := Value.slice.inj hv
      simp only [Option.some.injEq, Addr.mk.injEq, and_true] at e1
      subst e1
      exact Blk.frozen hg j
theorem row_lt {w : World} {g n c s : Nat} {E : TypeId} {xs : List Value} (h : w.ownsRow 0 E s (.slice (some ⟨g, 0, none⟩) n c) n xs) : g < w.heap.size := (World.ownsRow.lt h g rfl).2
/-- A copy of a slice behind nil, elements of several cells, as a step of a region that draws. -/
theorem step_copyM {P : Program} (w : World) {ops : Array Oper} {o : Oper} {a : Act} {K : Act → World → Prop} {Q : Exit → Act → World → Prop} {E : Prop} (hgd : o.guard = none) (x0 x : Operand) (t : TypeId)
    (ho : o.op = .call { callee := .builtin .append, args := #[x0, x], argTypes := #[t, t] })
    (e : TypeId) (i : TypeInfo) (z : Value) (size bytes : Nat) (ht : P.underlying t = some (.slice e)) (hi : P.info? e = some i) (hz : i.zero = some z)
    (hsize : i.size = size) (hby : i.bytes = bytes) (hzs : z.cells.size = size) (hsz : 0 < size) (hx0 : a.eval x0 = .slice none 0 0)
    (v : Value) (m : Nat) (news : List Value) (hx : a.eval x = v) (hsrc : Src w v m size news)
    (h1 : ∀ u ∈ news, u.oneCell' = true) (h63 : m ≤ maxLen) (hbytes : m * bytes ≤ 140737488355328)
    (h : ∀ A c w', Turns w w' Own.emp (Own.row e size (.slice A m c) m news) → K (a.put o.dst (.slice A m c)) w') :
    if Region.wanted o (yielded ops a.tmps) = true then Oper.wp P o a w K Q else E := by
  have hw : Region.wanted o (yielded ops a.tmps) = true := by simp [Region.wanted, hgd]
  rw [if_pos hw]
  have hown : w.ownsRow 0 e size (.slice none 0 0) 0 [] := World.ownsRow_nil _ _ _ _
  refine wp_append_src _ x0 x t ho 0 e i z size bytes ht hi hz hsize hby hzs hsz _ 0 [] hx0 hown v m news hx hsrc h1 (by omega) (by simpa using hbytes) (Nat.zero_le _) ?_
  intro v' w' ho' hg' hat
  rw [Nat.zero_add, List.nil_append] at ho'
  obtain ⟨A, c, rfl⟩ := row_slice ho'
  have h0 : Turns w w Own.emp (Own.row e size (.slice none 0 0) 0 []) := ⟨Chg.refl _ _, hown, fun b hb => by cases hb⟩
  exact h A c w' (h0.trans (Turns.row ho' hg' hat))
end Go.Hp
