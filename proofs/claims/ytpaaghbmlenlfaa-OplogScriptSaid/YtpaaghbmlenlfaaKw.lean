/- An append of one where the row is near the platform's bound. -/
import Derived.Test.YtpaaghbmlenlfaaKp
import Derived.Deep.DeepAppendWide
namespace Go.Hp
open Go.RowKit Go.Hp
set_option linter.unusedSimpArgs false
set_option linter.unusedVariables false
section
variable {P : Program} (w : World)
theorem run_append_near (t ty e : TypeId) (i : TypeInfo) (z : Value) (bytes : Nat) (ht : P.underlying t = some (.slice e)) (hi : P.info? e = some i) (hz : i.zero = some z)
    (hsize : i.size = 1) (hby : i.bytes = bytes) (hzs : z.cells.size = 1)
    (v : Value) (n : Nat) (xs : List Value) (hown : w.ownsRow 0 e 1 v n xs)
    (a : Addr) (m c : Nat) (news : List Value) (hl : news.length = m) (hnews : ∀ j u, news[j]? = some u → w.cell? (a.add j) = some u) (h1 : ∀ u ∈ news, u.oneCell' = true)
    (h63 : n + m ≤ maxLen) (hbytes : ((n + m) + (n + m) / 4 + 192) * bytes ≤ 281474976710656) :
    ∃ v' w', (Builtin.append_ #[t, t] ty #[v, .slice (some a) m c]).run P w = .ok v' w' ∧ w'.ownsRow 0 e 1 v' (n + m) (xs ++ news) ∧ w.grownBy w' v.ownBlock ∧
      (∀ b, v'.ownBlock = some b → v.ownBlock = some b ∨ w.heap.size ≤ b) := by
  obtain ⟨v', w', hr, k1, k2, _⟩ := run_append_own_wide (P := P) w 0 t ty e i z 1 bytes ht hi hz hsize hby hzs (by omega) v n xs hown a m c news (by omega) hnews h1 h63 hbytes (Nat.zero_le _)
  refine ⟨v', w', hr, k1, k2, ?_⟩
  rcases hown.2 with ⟨rfl, rfl⟩ | ⟨g', cap, cur, rfl, hbg, hh, hnc, hcm, hcs, htake⟩
  · obtain ⟨v2, w2, hr2, j1, _, _⟩ := run_append_own_wide (P := P) w w.heap.size t ty e i z 1 bytes ht hi hz hsize hby hzs (by omega) (.slice none 0 0) 0 xs ⟨hown.1, Or.inl ⟨rfl, rfl⟩⟩ a m c news (by omega) hnews h1 h63 hbytes (Nat.le_refl _)
    rw [hr] at hr2
    injection hr2 with e1 e2
    subst e1
    intro b hb
    right
    rcases j1.2 with ⟨rfl, _⟩ | ⟨g, cap, cur, rfl, hbg, _⟩
    · cases hb
    · have : g = b := by simpa [Value.ownBlock] using hb
      omega
  · by_cases hroom : n + m ≤ cap
    · obtain ⟨w2, hr2, hk2, _⟩ := run_append_fits (P := P) w 0 t ty e i 1 ht hi hsize g' n cap xs hown a m c news (by omega) hnews h1 hroom
      rw [hr] at hr2
      injection hr2 with e1 e2
      subst e1
      intro b hb
      exact Or.inl hb
    · have holds : ∀ j u, xs[j]? = some u → w.cell? ((⟨g', 0, none⟩ : Addr).add j) = some u := World.ownsRow.cells (g := g') hown rfl
      have hxl : xs.length = n := by have := hown.1; omega
      have hr2 := run_append_grow (P := P) w t ty e i z ht hi hz ⟨g', 0, none⟩ n cap xs (by rw [hsize]; omega) holds a m c news (by rw [hsize]; omega) hnews (by omega) (by simp only [maxLen] at h63; omega) (growslice_fits_wide (by omega) (by rw [hby]; exact hbytes))
      rw [hr] at hr2
      injection hr2 with e1 e2
      subst e1
      intro b hb
      right
      have : w.heap.size = b := by simpa [Value.ownBlock] using hb
      omega
/-- One element behind a row, near the bound. -/
theorem wpList_app1W {ops : Array Oper} {rest : List Oper} {o : Oper} {a : Act} {Q : Exit → Act → World → Prop} (hgd : o.guard = none) (s x : Operand) (t : TypeId)
    (ho : o.op = .call { callee := .builtin .append, args := #[s, x], argTypes := #[t, t] })
    (e : TypeId) (i : TypeInfo) (z : Value) (bytes : Nat) (ht : P.underlying t = some (.slice e)) (hi : P.info? e = some i) (hz : i.zero = some z)
    (hsize : i.size = 1) (hby : i.bytes = bytes) (hzs : z.cells.size = 1)
    (v : Value) (n : Nat) (xs : List Value) (hs : a.eval s = v) (u0 : Value) (T : TypeId) (b0 : Nat) (hx : a.eval x = .slice (some ⟨b0, 0, none⟩) 1 1) (hb0 : b0 = w.heap.size) (hown : w.ownsRow 0 e 1 v n xs)
    (h1 : u0.oneCell' = true) (h63 : n + 1 ≤ maxLen) (hbytes : ((n + 1) + (n + 1) / 4 + 192) * bytes ≤ 281474976710656)
    (h : ∀ g c w', n + 1 ≤ c → Turns w w' (Own.row e 1 v n xs) (Own.row e 1 (.slice (some ⟨g, 0, none⟩) (n + 1) c) (n + 1) (xs ++ [u0])) →
      wpList P ops Q rest (a.put o.dst (.slice (some ⟨g, 0, none⟩) (n + 1) c)) w') :
    wpList P ops Q (o :: rest) a (w.alloc (.cells #[u0] T)) := by
  subst hb0
  have hT : Turns w (w.alloc (.cells #[u0] T)) (Own.row e 1 v n xs) (Own.row e 1 v n xs) := Turns.alloc (Turns.refl (O := Own.row e 1 v n xs) hown) _
  refine wpList_plain hgd fun K hK => ?_
  obtain ⟨v', w', hr, h2, h3, h4⟩ := run_append_near (P := P) (w.alloc (.cells #[u0] T)) t o.type e i z bytes ht hi hz hsize hby hzs v n xs hT.now ⟨w.heap.size, 0, none⟩ 1 1 [u0] rfl (cell_one_new w u0 T) (by simpa using h1) h63 hbytes
  unfold Oper.wp execOp
  simp only [ho, resolve, invoke, builtin, Sem.run_bind, Sem.run_pure, Result.andThen_ok, List.map_toArray, List.map_cons, List.map_nil, hs, hx, hr]
  obtain ⟨g, c, rfl, _, hc⟩ := row_form h2 (by omega)
  exact hK _ _ (h g c w' hc (hT.trans ⟨Chg.of_grown h3, h2, h4⟩))
/-- One element behind a row near the bound, as a step of a region that draws. -/
theorem step_app1W {ops : Array Oper} {o : Oper} {a : Act} {K : Act → World → Prop} {Q : Exit → Act → World → Prop} {E : Prop} (hgd : o.guard = none) (s x : Operand) (t : TypeId)
    (ho : o.op = .call { callee := .builtin .append, args := #[s, x], argTypes := #[t, t] })
    (e : TypeId) (i : TypeInfo) (z : Value) (bytes : Nat) (ht : P.underlying t = some (.slice e)) (hi : P.info? e = some i) (hz : i.zero = some z)
    (hsize : i.size = 1) (hby : i.bytes = bytes) (hzs : z.cells.size = 1)
    (v : Value) (n : Nat) (xs : List Value) (hs : a.eval s = v) (u0 : Value) (T : TypeId) (b0 : Nat) (hx : a.eval x = .slice (some ⟨b0, 0, none⟩) 1 1) (hb0 : b0 = w.heap.size) (hown : w.ownsRow 0 e 1 v n xs)
    (h1 : u0.oneCell' = true) (h63 : n + 1 ≤ maxLen) (hbytes : ((n + 1) + (n + 1) / 4 + 192) * bytes ≤ 281474976710656)
    (h : ∀ g c w', n + 1 ≤ c → Turns w w' (Own.row e 1 v n xs) (Own.row e 1 (.slice (some ⟨g, 0, none⟩) (n + 1) c) (n + 1) (xs ++ [u0])) → K (a.put o.dst (.slice (some ⟨g, 0, none⟩) (n + 1) c)) w') :
    if Region.wanted o (yielded ops a.tmps) = true then Oper.wp P o a (w.alloc (.cells #[u0] T)) K Q else E := by
  subst hb0
  have hw : Region.wanted o (yielded ops a.tmps) = true := by simp [Region.wanted, hgd]
  rw [if_pos hw]
  have hT : Turns w (w.alloc (.cells #[u0] T)) (Own.row e 1 v n xs) (Own.row e 1 v n xs) := Turns.alloc (Turns.refl (O := Own.row e 1 v n xs) hown) _
  obtain ⟨v', w', hr, h2, h3, h4⟩ := run_append_near (P := P) (w.alloc (.cells #[u0] T)) t o.type e i z bytes ht hi hz hsize hby hzs v n xs hT.now ⟨w.heap.size, 0, none⟩ 1 1 [u0] rfl (cell_one_new w u0 T) (by simpa using h1) h63 hbytes
  obtain ⟨g, c, rfl, _, hc⟩ := row_form h2 (by omega)
  have hk := h g c w' hc (hT.trans ⟨Chg.of_grown h3, h2, h4⟩)
  unfold Oper.wp execOp
  simp only [ho, resolve, invoke, builtin, Sem.run_bind, Sem.run_pure, Result.andThen_ok, List.map_toArray, List.map_cons, List.map_nil, hs, hx, hr]
  exact hk
end
end Go.Hp
