/- Maps in memory: entries in their order, a range under way. Plain, for whatever program and keys. -/
import Derived.Test.YtmpkjfengfgagaaSp
import Derived.Maps.RangeRun
import Derived.Maps.RangeWalk
namespace Go.Hp
open Go.RowKit
open Go.ChangeMaps (setBlock)
set_option linter.unusedVariables false
set_option linter.unusedSimpArgs false
set_option linter.unusedSectionVars false
variable {κ ν : Type} [DecidableEq κ]
def mkeys (l : List (κ × ν)) : List κ := l.map Prod.fst
def mget (l : List (κ × ν)) (k : κ) : Option ν := (l.find? (fun x => x.1 = k)).map Prod.snd
def mix (l : List (κ × ν)) (k : κ) : Option Nat := l.findIdx? (fun x => x.1 = k)
def mset (l : List (κ × ν)) (k : κ) (v : ν) : List (κ × ν) := l.map fun x => if x.1 = k then (k, v) else x
def mput (l : List (κ × ν)) (k : κ) (v : ν) : List (κ × ν) := if k ∈ mkeys l then mset l k v else l ++ [(k, v)]
def mdel (l : List (κ × ν)) (k : κ) : List (κ × ν) := l.filter fun x => x.1 ≠ k
def mstrike (l : List κ) (k : κ) : List κ := l.filter fun x => decide (x ≠ k)
/-- Entries read as a list. -/
structure MapOk (R : κ → Value → Prop) (ev : ν → Value) (es : Array MapEntry) (clock : Nat) (l : List (κ × ν)) : Prop where
  size : es.size = l.length
  at_ : ∀ (i : Nat) (e : MapEntry) (x : κ × ν), es[i]? = some e → l[i]? = some x → R x.1 e.key ∧ e.val = ev x.2
  old : ∀ e ∈ es.toList, e.born < clock
  born : (es.toList.map (·.born)).Nodup
  nd : (mkeys l).Nodup
/-- How keys of a type behave. -/
structure KeyL (P : Program) (kt : TypeId) (R : κ → Value → Prop) : Prop where
  check : ∀ (w : World) (b : Bool) (k : κ) (kv : Value), R k kv → (Instr.checkKey b 10000 kt kv).run P w = .ok () w
  find : ∀ (w : World) (k : κ) (kv : Value) (es : List MapEntry) (ks : List κ), R k kv → es.length = ks.length → (∀ (i : Nat) (e : MapEntry) (x : κ), es[i]? = some e → ks[i]? = some x → R x e.key) →
    (Instr.findKey kt kv es).run P w = .ok ((ks.findIdx? (fun x => x = k)).bind fun i => es[i]?.map fun e => (i, e.val)) w
  stays : ∀ (w : World) (k : κ) (u v : Value), R k u → R k v → ∃ (kv : Value) (w' : World), (Instr.keyThatStays u v).run P w = .ok kv w' ∧ R k kv ∧ (w' = w ∨ w' = w.drew)
theorem mix_keys (l : List (κ × ν)) (k : κ) : (mkeys l).findIdx? (fun x => x = k) = mix l k := by
  unfold mkeys mix
  rw [List.findIdx?_map]
  rfl
theorem mix_none {l : List (κ × ν)} {k : κ} (h : mix l k = none) : k ∉ mkeys l ∧ mget l k = none := by
  unfold mix at h
  rw [List.findIdx?_eq_none_iff] at h
  refine ⟨fun hm => ?_, ?_⟩
  · obtain ⟨x, hx, rfl⟩ := List.mem_map.1 hm
    simpa using h x hx
  · unfold mget
    rw [Option.map_eq_none_iff, List.find?_eq_none]
    intro x hx
    simpa using h x hx
theorem mix_some {l : List (κ × ν)} {k : κ} {i : Nat} (h : mix l k = some i) : ∃ v, l[i]? = some (k, v) ∧ mget l k = some v ∧ k ∈ mkeys l := by
  unfold mix at h
  rw [List.findIdx?_eq_some_iff_getElem] at h
  obtain ⟨hi, h1, h2⟩ := h
  have hk : l[i].1 = k := by simpa using h1
  refine ⟨l[i].2, by rw [List.getElem?_eq_getElem hi, ← hk], ?_, List.mem_map.2 ⟨l[i], List.getElem_mem hi, hk⟩⟩
  unfold mget
  have : l.find? (fun x => x.1 = k) = some l[i] := by
    rw [List.find?_eq_some_iff_getElem]
    exact ⟨h1, i, hi, rfl, fun j hj => by simpa using h2 j hj⟩
  rw [this]; rfl
theorem mix_mem {l : List (κ × ν)} {k : κ} (h : k ∈ mkeys l) : ∃ i, mix l k = some i := by
  cases hm : mix l k with
  | none => exact absurd h (mix_none hm).1
  | some i => exact ⟨i, rfl⟩
theorem mget_mem {l : List (κ × ν)} {k : κ} : (mget l k).isSome = true ↔ k ∈ mkeys l := by
  cases hm : mix l k with
  | none => have := mix_none hm; simp [this.1, this.2]
  | some i => obtain ⟨v, h1, h2, h3⟩ := mix_some hm; simp [h2, h3]
theorem nd_at {l : List (κ × ν)} (hn : (mkeys l).Nodup) {i j : Nat} {x y : κ × ν} (hi : l[i]? = some x) (hj : l[j]? = some y) (h : x.1 = y.1) : i = j := by
  obtain ⟨hil, rfl⟩ := List.getElem?_eq_some_iff.1 hi
  obtain ⟨hjl, rfl⟩ := List.getElem?_eq_some_iff.1 hj
  have h2 := List.pairwise_iff_getElem.1 hn
  have e1 : (mkeys l).length = l.length := by simp [mkeys]
  have e2 : ∀ n (h : n < l.length), (mkeys l)[n]'(by omega) = l[n].1 := fun n h => by simp [mkeys]
  rcases Nat.lt_trichotomy i j with hij | hij | hij
  · exact absurd (by rw [e2 i hil, e2 j hjl]; exact h) (h2 i j (by omega) (by omega) hij)
  · exact hij
  · exact absurd (by rw [e2 i hil, e2 j hjl]; exact h.symm) (h2 j i (by omega) (by omega) hij)
theorem mset_keys (l : List (κ × ν)) (k : κ) (v : ν) : mkeys (mset l k v) = mkeys l := by
  unfold mkeys mset
  rw [List.map_map]
  refine List.map_congr_left fun x _ => ?_
  simp only [Function.comp]
  split
  · rename_i h; exact h.symm
  · rfl
theorem mset_at {l : List (κ × ν)} {k : κ} {v : ν} {i : Nat} {x : κ × ν} (h : (mset l k v)[i]? = some x) : ∃ y, l[i]? = some y ∧ x = if y.1 = k then (k, v) else y := by
  unfold mset at h
  rw [List.getElem?_map] at h
  obtain ⟨y, hy, rfl⟩ := Option.map_eq_some_iff.1 h
  exact ⟨y, hy, rfl⟩
theorem mput_nd {l : List (κ × ν)} (h : (mkeys l).Nodup) (k : κ) (v : ν) : (mkeys (mput l k v)).Nodup := by
  unfold mput
  split
  · rw [mset_keys]; exact h
  · rename_i hk
    unfold mkeys at *
    rw [List.map_append, List.nodup_append]
    exact ⟨h, by simp, fun a ha b hb => by simp at hb; rintro rfl; subst hb; exact hk ha⟩
theorem mdel_nd {l : List (κ × ν)} (h : (mkeys l).Nodup) (k : κ) : (mkeys (mdel l k)).Nodup := (List.filter_sublist.map _).nodup h
section
variable {P : Program} {R : κ → Value → Prop} {ev : ν → Value} {es : Array MapEntry} {clock : Nat} {l : List (κ × ν)} {w : World} {b : Nat}
theorem MapOk.has (h : MapOk R ev es clock l) {i : Nat} {x : κ × ν} (hx : l[i]? = some x) : ∃ e, es[i]? = some e ∧ R x.1 e.key ∧ e.val = ev x.2 := by
  have hi := (List.getElem?_eq_some_iff.1 hx).1
  have he : es[i]? = some (es[i]'(by rw [h.size]; exact hi)) := Array.getElem?_eq_getElem _
  exact ⟨_, he, h.at_ i _ x he hx⟩
theorem MapOk.find (h : MapOk R ev es clock l) {kt : TypeId} (K : KeyL P kt R) {k : κ} {kv : Value} (hk : R k kv) (w : World) :
    (Instr.findKey kt kv es.toList).run P w = .ok ((mix l k).bind fun i => es[i]?.map fun e => (i, e.val)) w := by
  have := K.find w k kv es.toList (mkeys l) hk (by rw [Array.length_toList, h.size, mkeys, List.length_map]) (fun i e x he hx => by
    rw [mkeys, List.getElem?_map] at hx
    obtain ⟨y, hy, rfl⟩ := Option.map_eq_some_iff.1 hx
    exact (h.at_ i e y (by simpa using he) hy).1)
  rw [mix_keys] at this
  simpa using this
/-- A map: its block, what it holds. -/
def Own.map (R : κ → Value → Prop) (ev : ν → Value) (b : Nat) (l : List (κ × ν)) : Own :=
  ⟨(· = b), fun w => ∃ es clock, w.heap[b]? = some (.map es clock) ∧ MapOk R ev es clock l, fun ⟨es, c, h, k⟩ hb => ⟨es, c, (hb b rfl).trans h, k⟩, fun ⟨es, c, h, _⟩ x hx => by cases hx; exact (Array.getElem?_eq_some_iff.1 h).1⟩
theorem setBlock_heap {w : World} {b : Nat} {o o' : Obj} (h : w.heap[b]? = some o) : (setBlock w b o').heap[b]? = some o' := by
  obtain ⟨hl, _⟩ := Array.getElem?_eq_some_iff.1 h
  unfold setBlock
  simp [Array.getElem?_set, hl]
theorem setBlock_ne {w : World} {b j : Nat} {o' : Obj} (h : j ≠ b) : (setBlock w b o').heap[j]? = w.heap[j]? := by
  unfold setBlock
  simp only [Array.setIfInBounds]
  split
  · rw [Array.getElem?_set_ne _ (fun e => h e.symm)]
  · rfl
theorem setBlock_chg (w : World) (b : Nat) (o' : Obj) : Chg (· = b) w (setBlock w b o') :=
  ⟨rfl, rfl, rfl, by simp [setBlock], fun k _ hk => setBlock_ne hk⟩
theorem Turns.map_new (R : κ → Value → Prop) (ev : ν → Value) (w : World) : Turns w (w.alloc (.map #[] 0)) Own.emp (Own.map R ev w.heap.size ([] : List (κ × ν))) :=
  ⟨(Chg.refl _ _).alloc _, ⟨#[], 0, by show (w.heap.push _)[w.heap.size]? = _; simp, ⟨rfl, fun i e x he => by simp at he, fun e he => by simp at he, by simp, by simp [mkeys]⟩⟩, fun b hb => by cases hb; exact Or.inr (Nat.le_refl _)⟩
theorem run_lookupM {t e kt : TypeId} (ht : P.underlying t = some (.map kt e)) (K : KeyL P kt R) {z : Value} (hz : ∀ w, (zeroValue e).run P w = .ok z w) (h : (Own.map R ev b l).holds w) {k : κ} {kv : Value} (hk : R k kv) (ok : Bool) :
    (Instr.lookup t (.map (some b)) kv ok).run P w = .ok (if ok then .tuple #[((mget l k).map ev).getD z, .bool (mget l k).isSome] else ((mget l k).map ev).getD z) w := by
  obtain ⟨es, clock, hb, hm⟩ := h
  have hf := hm.find K hk w
  have hc := K.check w es.isEmpty k kv hk
  simp only [Instr.lookup, Sem.run_bind, run_underlying ht, MapKept.run_getObj_map hb, hc, hf, Result.andThen, Sem.run_pure]
  cases hx : mix l k with
  | none =>
    have := mix_none hx
    simp only [Option.bind_none, Sem.run_bind, hz, Result.andThen, Sem.run_pure, this.2]
    cases ok <;> simp
  | some i =>
    obtain ⟨v, h1, h2, h3⟩ := mix_some hx
    obtain ⟨e0, he0, _, hv⟩ := hm.has h1
    simp only [Option.bind_some, he0, Option.map_some, Sem.run_pure, Result.andThen, h2, hv]
    cases ok <;> simp
theorem Turns.map_set {O : Own} {w w1 : World} {b : Nat} {o : Obj} {l' : List (κ × ν)} {es' : Array MapEntry} {clock' : Nat} (hb : w.heap[b]? = some o) (hw : w1 = w ∨ w1 = w.drew) (h' : MapOk R ev es' clock' l') :
    Turns w (setBlock w1 b (.map es' clock')) (Own.map R ev b l) (Own.map R ev b l') := by
  have hb1 : w1.heap[b]? = some o := by rcases hw with rfl | rfl <;> exact hb
  have hc : Chg (· = b) w w1 := by rcases hw with rfl | rfl; exact Chg.refl _ _; exact (Chg.refl _ _).drew
  exact ⟨hc.trans (setBlock_chg _ _ _), ⟨es', clock', setBlock_heap hb1, h'⟩, fun x hx => Or.inl hx⟩
theorem MapOk.set (h : MapOk R ev es clock l) {k : κ} {v : ν} {i : Nat} (hx : mix l k = some i) {kv : Value} (hk : R k kv) : MapOk R ev (es.modify i fun e => { e with key := kv, val := ev v }) clock (mset l k v) := by
  obtain ⟨v0, h1, h2, h3⟩ := mix_some hx
  have hb : (es.modify i fun e => { e with key := kv, val := ev v }).toList.map (·.born) = es.toList.map (·.born) := by
    apply List.ext_getElem?
    intro j
    rw [List.getElem?_map, List.getElem?_map, Array.getElem?_toList, Array.getElem?_toList, Array.getElem?_modify]
    split
    · cases es[j]? <;> rfl
    · rfl
  refine ⟨by simp [mset, h.size], fun j e x he hx2 => ?_, fun e he => ?_, by rw [hb]; exact h.born, by rw [mset_keys]; exact h.nd⟩
  · obtain ⟨y, hy, rfl⟩ := mset_at hx2
    rw [Array.getElem?_modify] at he
    obtain ⟨e0, he0, hr, hv⟩ := h.has hy
    by_cases e1 : i = j
    · subst e1
      rw [h1] at hy
      cases hy
      rw [if_pos rfl, he0] at he
      cases he
      rw [if_pos (show ((k, v0) : κ × ν).1 = k from rfl)]
      exact ⟨hk, rfl⟩
    · rw [if_neg e1, he0] at he
      cases he
      have : y.1 ≠ k := fun e2 => e1 (nd_at h.nd h1 hy e2.symm)
      rw [if_neg this]
      exact ⟨hr, hv⟩
  · have h4 : e.born ∈ (es.modify i fun e => { e with key := kv, val := ev v }).toList.map (·.born) := List.mem_map.2 ⟨e, he, rfl⟩
    rw [hb] at h4
    obtain ⟨e', he', hb'⟩ := List.mem_map.1 h4
    rw [← hb']
    exact h.old e' he'
theorem MapOk.push (h : MapOk R ev es clock l) {k : κ} {v : ν} (hx : mix l k = none) {kv : Value} (hk : R k kv) : MapOk R ev (es.push { key := kv, val := ev v, born := clock }) (clock + 1) (l ++ [(k, v)]) := by
  have h1 := (mix_none hx).1
  refine ⟨by simp [h.size], fun j e x he hx2 => ?_, fun e he => ?_, ?_, ?_⟩
  · rw [Array.getElem?_push] at he
    rw [List.getElem?_append] at hx2
    by_cases e1 : j = es.size
    · rw [if_pos e1] at he
      cases he
      rw [if_neg (by rw [← h.size]; omega)] at hx2
      rw [show j - l.length = 0 by rw [← h.size]; omega] at hx2
      simp at hx2
      subst hx2
      exact ⟨hk, rfl⟩
    · rw [if_neg e1] at he
      have hj := (Array.getElem?_eq_some_iff.1 he).1
      rw [if_pos (by rw [← h.size]; omega)] at hx2
      exact h.at_ j e x he hx2
  · simp only [Array.toList_push, List.mem_append, List.mem_singleton] at he
    rcases he with he | rfl
    · have := h.old e he; omega
    · simp only []; omega
  · rw [Array.toList_push, List.map_append, List.nodup_append]
    refine ⟨h.born, by simp, fun x hx y hy => ?_⟩
    simp at hy
    obtain ⟨e, he, rfl⟩ := List.mem_map.1 hx
    have := h.old e he
    omega
  · unfold mkeys at *
    rw [List.map_append, List.nodup_append]
    exact ⟨h.nd, by simp, fun a ha b hb => by simp at hb; rintro rfl; subst hb; exact h1 ha⟩
theorem run_setObjM {w : World} {b : Nat} {es : Array MapEntry} {c : Nat} (hb : w.heap[b]? = some (.map es c)) (o' : Obj) : (setObj b o').run P w = .ok () (setBlock w b o') := by
  simp [setObj, Sem.run, hb, setBlock]
theorem run_updateM {t e kt : TypeId} (ht : P.underlying t = some (.map kt e)) (K : KeyL P kt R) (h : (Own.map R ev b l).holds w) {k : κ} {kv : Value} (hk : R k kv) (v : ν) :
    ∃ w', (Instr.mapUpdate t (.map (some b)) kv (ev v)).run P w = .ok () w' ∧ Turns w w' (Own.map R ev b l) (Own.map R ev b (mput l k v)) := by
  obtain ⟨es, clock, hb, hm⟩ := h
  have hf := hm.find K hk w
  have hc := K.check w false k kv hk
  cases hx : mix l k with
  | none =>
    rw [hx, Option.bind_none] at hf
    refine ⟨setBlock w b (.map (es.push { key := kv, val := ev v, born := clock }) (clock + 1)), ?_, ?_⟩
    · simp only [Instr.mapUpdate, Sem.run_bind, run_underlying ht, MapKept.run_getObj_map hb, hc, hf, Result.andThen, run_setObjM hb]
    · unfold mput
      rw [if_neg (mix_none hx).1]
      exact Turns.map_set (O := Own.emp) hb (Or.inl rfl) (hm.push hx hk)
  | some i =>
    obtain ⟨v0, h1, h2, h3⟩ := mix_some hx
    obtain ⟨e0, he0, hr0, _⟩ := hm.has h1
    rw [hx] at hf
    simp only [Option.bind_some, he0, Option.map_some] at hf
    obtain ⟨kv', w1, hs, hr1, hw⟩ := K.stays w k e0.key kv hr0 hk
    have hb1 : w1.heap[b]? = some (.map es clock) := by rcases hw with rfl | rfl <;> exact hb
    refine ⟨setBlock w1 b (.map (es.modify i fun e => { e with key := kv', val := ev v }) clock), ?_, ?_⟩
    · simp only [Instr.mapUpdate, Sem.run_bind, run_underlying ht, MapKept.run_getObj_map hb, hc, hf, Result.andThen, he0, Option.map_some, Option.getD_some, hs, run_setObjM hb1]
    · unfold mput
      rw [if_pos h3]
      exact Turns.map_set (O := Own.emp) hb hw (hm.set hx hr1)
theorem MapOk.len (h : MapOk R ev es clock l) : es.size = l.length := h.size
theorem mdel_none {k : κ} (h : k ∉ mkeys l) : mdel l k = l := by
  unfold mdel
  rw [List.filter_eq_self]
  intro x hx
  simp only [ne_eq, decide_not, Bool.not_eq_eq_eq_not, Bool.not_true, decide_eq_false_iff_not]
  exact fun e => h (List.mem_map.2 ⟨x, hx, e⟩)
theorem mdel_idx (hn : (mkeys l).Nodup) {k : κ} {i : Nat} (hx : mix l k = some i) : mdel l k = l.eraseIdx i := by
  obtain ⟨v, h1, _, _⟩ := mix_some hx
  obtain ⟨hi, hl⟩ := List.getElem?_eq_some_iff.1 h1
  have hs : l = l.take i ++ (k, v) :: l.drop (i + 1) := by
    rw [← hl, List.getElem_cons_drop, List.take_append_drop]
  have key : ∀ j x, l[j]? = some x → j ≠ i → x.1 ≠ k := fun j x hj hne e => hne (nd_at hn hj h1 (by rw [e]))
  rw [List.eraseIdx_eq_take_drop_succ]
  unfold mdel
  conv => lhs; rw [hs]
  rw [List.filter_append, List.filter_cons]
  simp only [ne_eq, not_true_eq_false, decide_false, Bool.false_eq_true, if_false]
  congr 1
  · rw [List.filter_eq_self]
    intro x hx
    obtain ⟨j, hj, rfl⟩ := List.getElem_of_mem hx
    have hj2 : j < i := by rw [List.length_take] at hj; omega
    have := key j (l[j]'(by omega)) (List.getElem?_eq_getElem (by omega)) (by omega)
    simpa [List.getElem_take] using this
  · rw [List.filter_eq_self]
    intro x hx
    obtain ⟨j, hj, rfl⟩ := List.getElem_of_mem hx
    have hj2 : i + 1 + j < l.length := by rw [List.length_drop] at hj; omega
    have := key (i + 1 + j) l[i + 1 + j] (List.getElem?_eq_getElem hj2) (by omega)
    simpa [List.getElem_drop] using this
theorem MapOk.del (h : MapOk R ev es clock l) {k : κ} {i : Nat} (hx : mix l k = some i) : MapOk R ev (es.eraseIdxIfInBounds i) clock (mdel l k) := by
  obtain ⟨v, h1, _, _⟩ := mix_some hx
  have hi := (List.getElem?_eq_some_iff.1 h1).1
  have hT : (es.eraseIdxIfInBounds i).toList = es.toList.eraseIdx i := by
    unfold Array.eraseIdxIfInBounds
    rw [dif_pos (by rw [h.size]; exact hi), Array.toList_eraseIdx]
  refine ⟨?_, fun j e x he hx2 => ?_, fun e he => ?_, ?_, mdel_nd h.nd k⟩
  · rw [mdel_idx h.nd hx, ← Array.length_toList, hT, List.length_eraseIdx, List.length_eraseIdx, Array.length_toList, h.size]
  · rw [mdel_idx h.nd hx, List.getElem?_eraseIdx] at hx2
    rw [← Array.getElem?_toList, hT, List.getElem?_eraseIdx, Array.getElem?_toList, Array.getElem?_toList] at he
    split at hx2
    · rename_i hji
      rw [if_pos hji] at he
      exact h.at_ j e x he hx2
    · rename_i hji
      rw [if_neg hji] at he
      exact h.at_ (j + 1) e x he hx2
  · rw [hT] at he
    exact h.old e ((List.eraseIdx_sublist _ _).subset he)
  · rw [hT]
    exact ((List.eraseIdx_sublist _ _).map _).nodup h.born
theorem run_deleteM {t e kt ty : TypeId} (ht : P.underlying t = some (.map kt e)) (K : KeyL P kt R) (h : (Own.map R ev b l).holds w) {k : κ} {kv : Value} (hk : R k kv) :
    ∃ w', (Builtin.delete_ #[t, kt] ty #[.map (some b), kv]).run P w = .ok (.tuple #[]) w' ∧ Turns w w' (Own.map R ev b l) (Own.map R ev b (mdel l k)) := by
  obtain ⟨es, clock, hb, hm⟩ := h
  have hf := hm.find K hk w
  have hc := K.check w es.isEmpty k kv hk
  cases hx : mix l k with
  | none =>
    rw [hx, Option.bind_none] at hf
    refine ⟨setBlock w b (.map es clock), ?_, ?_⟩
    · simp [Builtin.delete_, Sem.run_bind, run_underlying ht, MapKept.run_getObj_map hb, hc, hf, Result.andThen, run_setObjM hb]
    · rw [mdel_none (mix_none hx).1]
      exact Turns.map_set (O := Own.emp) hb (Or.inl rfl) hm
  | some i =>
    obtain ⟨v0, h1, h2, h3⟩ := mix_some hx
    obtain ⟨e0, he0, hr0, _⟩ := hm.has h1
    rw [hx] at hf
    simp only [Option.bind_some, he0, Option.map_some] at hf
    refine ⟨setBlock w b (.map (es.eraseIdxIfInBounds i) clock), ?_, Turns.map_set (O := Own.emp) hb (Or.inl rfl) (hm.del hx)⟩
    simp [Builtin.delete_, Sem.run_bind, run_underlying ht, MapKept.run_getObj_map hb, hc, hf, Result.andThen, run_setObjM hb]
/-- A range over a map under way: which keys are to come. -/
def Own.rng (R : κ → Value → Prop) (ev : ν → Value) (b r : Nat) (l : List (κ × ν)) (todo : List κ) : Own :=
  ⟨fun x => x = b ∨ x = r, fun w => ∃ es clock since seen last, w.heap[b]? = some (.map es clock) ∧ MapOk R ev es clock l ∧ w.heap[r]? = some (.mapIter (some b) since seen last) ∧ since ≤ last ∧ since ≤ clock ∧
    (∀ e ∈ es.toList, e.born < since) ∧ (∀ (i : Nat) (e : MapEntry) (x : κ × ν), es[i]? = some e → l[i]? = some x → (x.1 ∈ todo ↔ seen.contains e.born = false)) ∧ ∀ k ∈ todo, k ∈ mkeys l,
    fun ⟨es, c, si, se, la, h1, h2, h3, h4⟩ hb => ⟨es, c, si, se, la, (hb b (Or.inl rfl)).trans h1, h2, (hb r (Or.inr rfl)).trans h3, h4⟩,
    fun ⟨es, c, si, se, la, h1, h2, h3, h4⟩ x hx => by rcases hx with rfl | rfl; exact (Array.getElem?_eq_some_iff.1 h1).1; exact (Array.getElem?_eq_some_iff.1 h3).1⟩
theorem rng_map {b r : Nat} {todo : List κ} (h : (Own.rng R ev b r l todo).holds w) : (Own.map R ev b l).holds w := by
  obtain ⟨es, c, si, se, la, h1, h2, _⟩ := h
  exact ⟨es, c, h1, h2⟩
theorem Turns.rng_end {w W : World} {O : Own} {r : Nat} {todo : List κ} (h : Turns w W O (Own.rng R ev b r l todo)) : Turns w W O (Own.map R ev b l) :=
  ⟨h.chg, rng_map h.now, fun x hx => h.near x (Or.inl hx)⟩
theorem run_rangeM {t e kt : TypeId} (ht : P.underlying t = some (.map kt e)) (h : (Own.map R ev b l).holds w) :
    ∃ w', (Instr.range t (.map (some b))).run P w = .ok (.pointer (some ⟨w.heap.size, 0, none⟩)) w' ∧ Turns w w' (Own.map R ev b l) (Own.rng R ev b w.heap.size l (mkeys l)) := by
  obtain ⟨es, clock, hb, hm⟩ := h
  have hlt := (Array.getElem?_eq_some_iff.1 hb).1
  refine ⟨w.alloc (.mapIter (some b) clock #[] clock), run_range_map w t kt e b es clock ht hb, ⟨(Chg.refl _ _).alloc _, ?_, fun x hx => hx.elim Or.inl (fun e => Or.inr (by omega))⟩⟩
  refine ⟨es, clock, clock, #[], clock, (Below.heap_alloc w _ b hlt).trans hb, hm, ?_, Nat.le_refl _, Nat.le_refl _, hm.old, fun i e x _ hx => ?_, fun k hk => hk⟩
  · show (w.heap.push _)[w.heap.size]? = _; simp
  · simp only [Array.contains_empty, iff_true]
    exact List.mem_map.2 ⟨x, List.mem_of_getElem? hx, rfl⟩
theorem rng_next {r : Nat} {todo : List κ} (h : (Own.rng R ev b r l todo).holds w) (ty : TypeId) :
    (todo = [] ∧ (Instr.next (.pointer (some ⟨r, 0, none⟩)) false ty).run P w = .ok (.tuple #[.bool false]) w) ∨
    ∃ k v kv w', k ∈ todo ∧ mget l k = some v ∧ R k kv ∧ (Instr.next (.pointer (some ⟨r, 0, none⟩)) false ty).run P w = .ok (.tuple #[.bool true, kv, ev v]) w' ∧
      Turns w w' (Own.rng R ev b r l todo) (Own.rng R ev b r l (mstrike todo k)) ∧ (Instr.entry (.pointer (some ⟨r, 0, none⟩))).run P w' = .ok (.tuple #[kv, ev v]) w' := by
  obtain ⟨es, clock, since, seen, last, hb, hm, hr, hsl, hsc, hold, hto, hin⟩ := h
  have hne : b ≠ r := fun e => by rw [e, hr] at hb; cases hb
  rcases run_next_at (P := P) w ty r b since last seen es clock hr hb hold hsl with ⟨h0, hrun⟩ | ⟨e, he, w1, hw, hrun⟩
  · refine Or.inl ⟨List.eq_nil_iff_forall_not_mem.2 fun k hk => ?_, hrun⟩
    obtain ⟨i, hi⟩ := mix_mem (hin k hk)
    obtain ⟨v, h1, _, _⟩ := mix_some hi
    obtain ⟨e, he, _⟩ := hm.has h1
    have h2 := (hto i e (k, v) he h1).1 hk
    have h3 : e ∈ (leftOf es seen).toList := by
      unfold leftOf
      rw [Array.toList_filter, List.mem_filter]
      exact ⟨List.mem_of_getElem? (by simpa using he), by rw [h2]; rfl⟩
    have h4 := List.length_pos_of_mem h3
    rw [Array.length_toList] at h4
    omega
  · unfold leftOf at he
    rw [Array.toList_filter, List.mem_filter] at he
    obtain ⟨hem, hes⟩ := he
    obtain ⟨i, hi⟩ := List.getElem?_of_mem hem
    have hei : es[i]? = some e := by simpa using hi
    have hil : i < l.length := by rw [← hm.size]; exact (Array.getElem?_eq_some_iff.1 hei).1
    have hli : l[i]? = some l[i] := List.getElem?_eq_getElem hil
    obtain ⟨hk, hv⟩ := hm.at_ i e _ hei hli
    have hkt : l[i].1 ∈ todo := (hto i e _ hei hli).2 (by simpa using hes)
    have hget : mget l l[i].1 = some l[i].2 := by
      obtain ⟨j, hj⟩ := mix_mem (hin _ hkt)
      obtain ⟨v, h1, h2, _⟩ := mix_some hj
      have e1 : j = i := nd_at hm.nd h1 hli rfl
      rw [e1, hli] at h1
      have h3 : l[i].2 = v := congrArg Prod.snd (Option.some.inj h1)
      rw [h2, h3]
    have hr1 : w1.heap[r]? = some (.mapIter (some b) since seen last) := by rcases hw with rfl | rfl <;> exact hr
    have hb1 : w1.heap[b]? = some (.map es clock) := by rcases hw with rfl | rfl <;> exact hb
    have hb2 : (setBlock w1 r (.mapIter (some b) since (seen.push e.born) clock)).heap[b]? = some (.map es clock) := (setBlock_ne hne).trans hb1
    have hc1 : Chg (fun x => x = b ∨ x = r) w w1 := by rcases hw with rfl | rfl; exact Chg.refl _ _; exact (Chg.refl _ _).drew
    refine Or.inr ⟨l[i].1, l[i].2, e.key, _, hkt, hget, hk, by rw [← hv]; exact hrun, ⟨hc1.trans ((setBlock_chg _ _ _).mono fun _ _ h => Or.inr h), ?_, fun x hx => Or.inl hx⟩, by rw [← hv]; exact run_entry_at _ r b since seen es clock e (setBlock_heap hr1) hb2 hem hm.born⟩
    refine ⟨es, clock, since, seen.push e.born, clock, hb2, hm, setBlock_heap hr1, hsc, hsc, hold, fun j e' x he' hx => ?_, fun k hk => hin k (List.mem_filter.1 hk).1⟩
    unfold mstrike
    rw [List.mem_filter, hto j e' x he' hx]
    have hbb : (e'.born = e.born) ↔ j = i := by
      constructor
      · intro hbe
        have h2 := List.pairwise_iff_getElem.1 hm.born
        have g1 := (Array.getElem?_eq_some_iff.1 he').1
        have g2 := (Array.getElem?_eq_some_iff.1 hei).1
        have q : ∀ n (h : n < es.size), (es.toList.map (·.born))[n]'(by simpa using h) = (es[n]).born := fun n h => by simp
        have q1 : (es[j]'g1) = e' := (Array.getElem?_eq_some_iff.1 he').2
        have q2 : (es[i]'g2) = e := (Array.getElem?_eq_some_iff.1 hei).2
        rcases Nat.lt_trichotomy j i with h | h | h
        · exact absurd (by rw [q j g1, q i g2, q1, q2]; exact hbe) (h2 j i (by simpa using g1) (by simpa using g2) h)
        · exact h
        · exact absurd (by rw [q j g1, q i g2, q1, q2]; exact hbe.symm) (h2 i j (by simpa using g2) (by simpa using g1) h)
      · rintro rfl
        rw [hei] at he'
        cases he'; rfl
    have hkk : (x.1 = l[i].1) ↔ j = i := by
      constructor
      · intro h; exact nd_at hm.nd hx hli h
      · rintro rfl
        rw [hli] at hx
        cases hx; rfl
    simp only [ne_eq, decide_not, Bool.not_eq_eq_eq_not, Bool.not_true, decide_eq_false_iff_not, Array.contains_push, Bool.or_eq_false_iff, beq_eq_false_iff_ne, hkk, hbb]
theorem rng_update {t e kt : TypeId} (ht : P.underlying t = some (.map kt e)) (K : KeyL P kt R) {r : Nat} {todo : List κ} (h : (Own.rng R ev b r l todo).holds w) {k : κ} {kv : Value} (hk : R k kv) (hin : k ∈ mkeys l) (v : ν) :
    ∃ w', (Instr.mapUpdate t (.map (some b)) kv (ev v)).run P w = .ok () w' ∧ Turns w w' (Own.rng R ev b r l todo) (Own.rng R ev b r (mset l k v) todo) := by
  obtain ⟨es, clock, since, seen, last, hb, hm, hr, hsl, hsc, hold, hto, hti⟩ := h
  have hne : r ≠ b := fun e => by rw [e, hb] at hr; cases hr
  have hf := hm.find K hk w
  have hc := K.check w false k kv hk
  obtain ⟨i, hx⟩ := mix_mem hin
  obtain ⟨v0, h1, h2, h3⟩ := mix_some hx
  obtain ⟨e0, he0, hr0, _⟩ := hm.has h1
  rw [hx] at hf
  simp only [Option.bind_some, he0, Option.map_some] at hf
  obtain ⟨kv', w1, hs, hrk, hw⟩ := K.stays w k e0.key kv hr0 hk
  have hb1 : w1.heap[b]? = some (.map es clock) := by rcases hw with rfl | rfl <;> exact hb
  have hr1 : w1.heap[r]? = some (.mapIter (some b) since seen last) := by rcases hw with rfl | rfl <;> exact hr
  have hc1 : Chg (fun x => x = b ∨ x = r) w w1 := by rcases hw with rfl | rfl; exact Chg.refl _ _; exact (Chg.refl _ _).drew
  have hm2 := hm.set hx hrk (v := v)
  refine ⟨setBlock w1 b (.map (es.modify i fun e => { e with key := kv', val := ev v }) clock), ?_, ⟨hc1.trans ((setBlock_chg _ _ _).mono fun _ _ h => Or.inl h), ?_, fun x hx => Or.inl hx⟩⟩
  · simp only [Instr.mapUpdate, Sem.run_bind, run_underlying ht, MapKept.run_getObj_map hb, hc, hf, Result.andThen, he0, Option.map_some, Option.getD_some, hs, run_setObjM hb1]
  · have hbn : ∀ (j : Nat) (e : MapEntry), (es.modify i fun e => { e with key := kv', val := ev v })[j]? = some e → ∃ e' : MapEntry, es[j]? = some e' ∧ e'.born = e.born := fun j e he => by
      rw [Array.getElem?_modify] at he
      split at he
      · obtain ⟨e', he', rfl⟩ := Option.map_eq_some_iff.1 he
        exact ⟨e', he', rfl⟩
      · exact ⟨e, he, rfl⟩
    refine ⟨_, clock, since, seen, last, setBlock_heap hb1, hm2, (setBlock_ne hne).trans hr1, hsl, hsc, fun e he => ?_, fun j e x he hx2 => ?_, fun k' hk' => by rw [mset_keys]; exact hti k' hk'⟩
    · obtain ⟨j, hj⟩ := List.getElem?_of_mem he
      obtain ⟨e', he', hbe⟩ := hbn j e (by rw [← Array.getElem?_toList]; exact hj)
      rw [← hbe]
      exact hold e' (List.mem_of_getElem? (by simpa using he'))
    · obtain ⟨e', he', hbe⟩ := hbn j e he
      obtain ⟨y, hy, rfl⟩ := mset_at hx2
      rw [← hbe, ← hto j e' y he' hy]
      split
      · rename_i hyk; rw [hyk]
      · rfl
theorem rng_delete {t e kt ty : TypeId} (ht : P.underlying t = some (.map kt e)) (K : KeyL P kt R) {r : Nat} {todo : List κ} (h : (Own.rng R ev b r l todo).holds w) {k : κ} {kv : Value} (hk : R k kv) (hin : k ∈ mkeys l) (hnt : k ∉ todo) :
    ∃ w', (Builtin.delete_ #[t, kt] ty #[.map (some b), kv]).run P w = .ok (.tuple #[]) w' ∧ Turns w w' (Own.rng R ev b r l todo) (Own.rng R ev b r (mdel l k) todo) := by
  obtain ⟨es, clock, since, seen, last, hb, hm, hr, hsl, hsc, hold, hto, hti⟩ := h
  have hne : r ≠ b := fun e => by rw [e, hb] at hr; cases hr
  have hf := hm.find K hk w
  have hc := K.check w es.isEmpty k kv hk
  obtain ⟨i, hx⟩ := mix_mem hin
  obtain ⟨v0, h1, h2, h3⟩ := mix_some hx
  obtain ⟨e0, he0, hr0, _⟩ := hm.has h1
  rw [hx] at hf
  simp only [Option.bind_some, he0, Option.map_some] at hf
  have hT : (es.eraseIdxIfInBounds i).toList = es.toList.eraseIdx i := by
    unfold Array.eraseIdxIfInBounds
    rw [dif_pos (by rw [hm.size]; exact (List.getElem?_eq_some_iff.1 h1).1), Array.toList_eraseIdx]
  refine ⟨setBlock w b (.map (es.eraseIdxIfInBounds i) clock), ?_, ⟨(setBlock_chg _ _ _).mono fun _ _ h => Or.inl h, ?_, fun x hx => Or.inl hx⟩⟩
  · simp [Builtin.delete_, Sem.run_bind, run_underlying ht, MapKept.run_getObj_map hb, hc, hf, Result.andThen, run_setObjM hb]
  · refine ⟨_, clock, since, seen, last, setBlock_heap hb, hm.del hx, (setBlock_ne hne).trans hr, hsl, hsc, fun e he => ?_, fun j e x he hx2 => ?_, fun k' hk' => ?_⟩
    · rw [hT] at he
      exact hold e ((List.eraseIdx_sublist _ _).subset he)
    · rw [mdel_idx hm.nd hx, List.getElem?_eraseIdx] at hx2
      rw [← Array.getElem?_toList, hT, List.getElem?_eraseIdx, Array.getElem?_toList, Array.getElem?_toList] at he
      split at hx2
      · rename_i hji
        rw [if_pos hji] at he
        exact hto j e x he hx2
      · rename_i hji
        rw [if_neg hji] at he
        exact hto (j + 1) e x he hx2
    · have h4 := hti k' hk'
      unfold mkeys mdel at *
      obtain ⟨x, hx3, rfl⟩ := List.mem_map.1 h4
      refine List.mem_map.2 ⟨x, List.mem_filter.2 ⟨hx3, ?_⟩, rfl⟩
      simp only [ne_eq, decide_not, Bool.not_eq_eq_eq_not, Bool.not_true, decide_eq_false_iff_not]
      rintro rfl
      exact hnt hk'
theorem run_lenM {t e kt ty : TypeId} (ht : P.underlying t = some (.map kt e)) (h : (Own.map R ev b l).holds w) : (Builtin.len_ #[t] ty #[.map (some b)]).run P w = .ok (.int .i64 l.length) w := by
  obtain ⟨es, clock, hb, hm⟩ := h
  simp [Builtin.len_, run_underlying ht, MapKept.run_getObj_map hb, Result.andThen, hm.size, goInt]
/-- Keys that are texts. -/
def strKey : ByteArray → Value → Prop := fun k v => v = .string k
def intKey : Int → Value → Prop := fun k v => v = .int .i64 k
theorem findNow_list {d : TypeDesc} {kv : Value} {k : κ} (hs : ∀ x v, R x v → Instr.sameNow d kv v = some (decide (x = k))) : ∀ (es : List MapEntry) (ks : List κ) (i : Nat), es.length = ks.length → (∀ (j : Nat) (e : MapEntry) (x : κ), es[j]? = some e → ks[j]? = some x → R x e.key) →
    Instr.findNow d kv es i = some ((ks.findIdx? (fun x => x = k)).bind fun j => es[j]?.map fun e => (j + i, e.val))
  | [], [], i, _, _ => rfl
  | [], _ :: _, _, h, _ => by simp at h
  | _ :: _, [], _, h, _ => by simp at h
  | e :: es, x :: ks, i, h, hr => by
    have h0 := hs x e.key (hr 0 e x rfl rfl)
    unfold Instr.findNow
    rw [h0, List.findIdx?_cons]
    by_cases hk : x = k
    · simp [hk]
    · have := findNow_list hs es ks (i + 1) (by simpa using h) (fun j e' x' h1 h2 => hr (j + 1) e' x' (by simpa using h1) (by simpa using h2))
      simp only [hk, decide_false, Bool.false_eq_true, if_false]
      rw [this]
      cases hf : ks.findIdx? (fun x => x = k) with
      | none => simp
      | some j => simp [Nat.add_assoc, Nat.add_comm 1 i]
theorem KeyL.of_now {kt : TypeId} {d : TypeDesc} (hd : P.underlying kt = some d) (hs : ∀ (k x : κ) (u v : Value), R k u → R x v → Instr.sameNow d u v = some (decide (x = k))) (hc : ∀ (w : World) (b : Bool) (k : κ) (kv : Value), R k kv → (Instr.checkKey b 10000 kt kv).run P w = .ok () w)
    (hst : ∀ (k : κ) (u v : Value), R k u → R k v → u = v ∧ Instr.sameBits 10000 u v = true) : KeyL P kt R :=
  ⟨hc, fun w k kv es ks hk hl hr => by
    unfold Instr.findKey
    rw [Sem.run_bind, run_underlying hd]
    simp only [Result.andThen]
    rw [findNow_list (k := k) (fun x v hx => hs k x kv v hk hx) es ks 0 hl hr]
    simp [Sem.run_pure],
  fun w k u v hu hv => by
    obtain ⟨rfl, h2⟩ := hst k u v hu hv
    exact ⟨u, w, by unfold Instr.keyThatStays; rw [if_pos h2]; rfl, hv, Or.inl rfl⟩⟩
theorem ba_beq (k x : ByteArray) : (k == x) = decide (k = x) := by
  cases k with
  | mk a =>
    cases x with
    | mk b =>
      have h : (ByteArray.mk a == ByteArray.mk b) = (a == b) := rfl
      rw [h, Bool.eq_iff_iff]
      simp
theorem key_str {P : Program} {kt : TypeId} (hd : P.underlying kt = some .string) : KeyL P kt strKey :=
  KeyL.of_now hd (fun k x u v hu hv => by unfold strKey at *; subst hu hv; simp only [Instr.sameNow]; exact congrArg some (by rw [decide_eq_decide.2 (eq_comm (a := x) (b := k)), ba_beq])) (fun w b k kv hk => by
    unfold strKey at hk; subst hk; unfold Instr.checkKey; simp [run_underlying hd, Result.andThen, Sem.run_pure]) (fun k u v hu hv => by unfold strKey at *; subst hu hv; exact ⟨rfl, by simp only [Instr.sameBits]; rw [ba_beq]; exact decide_eq_true rfl⟩)
theorem key_int {P : Program} {kt : TypeId} (hd : P.underlying kt = some (.int .i64)) : KeyL P kt intKey :=
  KeyL.of_now hd (fun k x u v hu hv => by unfold intKey at *; subst hu hv; simp only [Instr.sameNow, if_true]; exact congrArg some (by rw [decide_eq_decide.2 (eq_comm (a := x) (b := k))]; rfl)) (fun w b k kv hk => by
    unfold intKey at hk; subst hk; unfold Instr.checkKey; simp [run_underlying hd, Result.andThen, Sem.run_pure]) (fun k u v hu hv => by unfold intKey at *; subst hu hv; exact ⟨rfl, by simp [Instr.sameBits]⟩)
/-! ## At the operation -/
section
variable {ops : Array Oper} {rest : List Oper} {o : Oper} {a : Act} {Q : Exit → Act → World → Prop}
theorem wpList_lookupM (hg : o.guard = none) (m x : Operand) (t : TypeId) (ok : Bool) (hop : o.op = Op.lookup t m x ok) {e kt : TypeId} (ht : P.underlying t = some (.map kt e)) (K : KeyL P kt R) {z : Value} (hz : ∀ w, (zeroValue e).run P w = .ok z w)
    (hm : a.eval m = .map (some b)) (h : (Own.map R ev b l).holds w) {k : κ} {kv : Value} (hx : a.eval x = kv) (hk : R k kv)
    (hK : wpList P ops Q rest (a.put o.dst (if ok then .tuple #[((mget l k).map ev).getD z, .bool (mget l k).isSome] else ((mget l k).map ev).getD z)) w) : wpList P ops Q (o :: rest) a w := by
  refine wpList_plain hg fun K' hK' => ?_
  unfold Oper.wp
  have hrun := run_lookupM (P := P) ht K hz h hk ok
  cases ok
  · simp [execOp, hop, hm, hx, hrun, Result.andThen]
    exact hK' _ _ (by simpa using hK)
  · simp [execOp, hop, hm, hx, hrun, Result.andThen]
    exact hK' _ _ (by simpa using hK)
theorem wpList_updateM (hg : o.guard = none) (m x v : Operand) (t : TypeId) (hop : o.op = Op.mapUpdate t m x v) {e kt : TypeId} (ht : P.underlying t = some (.map kt e)) (K : KeyL P kt R)
    (hm : a.eval m = .map (some b)) (h : (Own.map R ev b l).holds w) {k : κ} {kv : Value} (hx : a.eval x = kv) (hk : R k kv) (u : ν) (hv : a.eval v = ev u)
    (hK : ∀ w', Turns w w' (Own.map R ev b l) (Own.map R ev b (mput l k u)) → wpList P ops Q rest (a.put o.dst undef) w') : wpList P ops Q (o :: rest) a w := by
  refine wpList_plain hg fun K' hK' => ?_
  obtain ⟨w', hrun, ht'⟩ := run_updateM ht K h hk u
  unfold Oper.wp
  simp [execOp, hop, hm, hx, hv, hrun, Result.andThen]
  exact hK' _ _ (hK w' ht')
theorem wpList_deleteM (hg : o.guard = none) (m x : Operand) (t kt : TypeId) (hop : o.op = Op.call { callee := Callee.builtin Builtin.delete, args := #[m, x], argTypes := #[t, kt] }) {e : TypeId} (ht : P.underlying t = some (.map kt e)) (K : KeyL P kt R)
    (hm : a.eval m = .map (some b)) (h : (Own.map R ev b l).holds w) {k : κ} {kv : Value} (hx : a.eval x = kv) (hk : R k kv)
    (hK : ∀ w', Turns w w' (Own.map R ev b l) (Own.map R ev b (mdel l k)) → wpList P ops Q rest (a.put o.dst (.tuple #[])) w') : wpList P ops Q (o :: rest) a w := by
  refine wpList_plain hg fun K' hK' => ?_
  obtain ⟨w', hrun, ht'⟩ := run_deleteM (ty := o.type) ht K h hk
  unfold Oper.wp
  simp [execOp, hop, resolve, invoke, builtin, hm, hx, hrun, Result.andThen]
  exact hK' _ _ (hK w' ht')
theorem wpList_rangeM (hg : o.guard = none) (m : Operand) (t : TypeId) (hop : o.op = Op.range t m) {e kt : TypeId} (ht : P.underlying t = some (.map kt e)) (hm : a.eval m = .map (some b)) (h : (Own.map R ev b l).holds w)
    (hK : ∀ w', Turns w w' (Own.map R ev b l) (Own.rng R ev b w.heap.size l (mkeys l)) → wpList P ops Q rest (a.put o.dst (.pointer (some ⟨w.heap.size, 0, none⟩))) w') : wpList P ops Q (o :: rest) a w := by
  refine wpList_plain hg fun K' hK' => ?_
  obtain ⟨w', hrun, ht'⟩ := run_rangeM ht h
  unfold Oper.wp
  simp [execOp, hop, hm, hrun, Result.andThen]
  exact hK' _ _ (hK w' ht')
theorem wpList_nextM (hg : o.guard = none) (it : Operand) (hop : o.op = Op.next it false) {r : Nat} {todo : List κ} (hit : a.eval it = .pointer (some ⟨r, 0, none⟩)) (h : (Own.rng R ev b r l todo).holds w)
    (hDone : todo = [] → wpList P ops Q rest (a.put o.dst (.tuple #[.bool false])) w)
    (hMore : ∀ k v kv w', k ∈ todo → mget l k = some v → R k kv → Turns w w' (Own.rng R ev b r l todo) (Own.rng R ev b r l (mstrike todo k)) → (Instr.entry (.pointer (some ⟨r, 0, none⟩))).run P w' = .ok (.tuple #[kv, ev v]) w' →
      wpList P ops Q rest (a.put o.dst (.tuple #[.bool true, kv, ev v])) w') : wpList P ops Q (o :: rest) a w := by
  refine wpList_plain hg fun K' hK' => ?_
  unfold Oper.wp
  rcases rng_next (P := P) h o.type with ⟨h0, hrun⟩ | ⟨k, v, kv, w', h1, h2, h3, hrun, ht, hen⟩
  · simp [execOp, hop, hit, hrun, Result.andThen]
    exact hK' _ _ (hDone h0)
  · simp [execOp, hop, hit, hrun, Result.andThen]
    exact hK' _ _ (hMore k v kv w' h1 h2 h3 ht hen)
theorem wpList_updateR (hg : o.guard = none) (m x v : Operand) (t : TypeId) (hop : o.op = Op.mapUpdate t m x v) {e kt : TypeId} (ht : P.underlying t = some (.map kt e)) (K : KeyL P kt R) {r : Nat} {todo : List κ}
    (hm : a.eval m = .map (some b)) (h : (Own.rng R ev b r l todo).holds w) {k : κ} {kv : Value} (hx : a.eval x = kv) (hk : R k kv) (hin : k ∈ mkeys l) (u : ν) (hv : a.eval v = ev u)
    (hK : ∀ w', Turns w w' (Own.rng R ev b r l todo) (Own.rng R ev b r (mset l k u) todo) → wpList P ops Q rest (a.put o.dst undef) w') : wpList P ops Q (o :: rest) a w := by
  refine wpList_plain hg fun K' hK' => ?_
  obtain ⟨w', hrun, ht'⟩ := rng_update ht K h hk hin u
  unfold Oper.wp
  simp [execOp, hop, hm, hx, hv, hrun, Result.andThen]
  exact hK' _ _ (hK w' ht')
theorem wpList_deleteR (hg : o.guard = none) (m x : Operand) (t kt : TypeId) (hop : o.op = Op.call { callee := Callee.builtin Builtin.delete, args := #[m, x], argTypes := #[t, kt] }) {e : TypeId} (ht : P.underlying t = some (.map kt e)) (K : KeyL P kt R) {r : Nat} {todo : List κ}
    (hm : a.eval m = .map (some b)) (h : (Own.rng R ev b r l todo).holds w) {k : κ} {kv : Value} (hx : a.eval x = kv) (hk : R k kv) (hin : k ∈ mkeys l) (hnt : k ∉ todo)
    (hK : ∀ w', Turns w w' (Own.rng R ev b r l todo) (Own.rng R ev b r (mdel l k) todo) → wpList P ops Q rest (a.put o.dst (.tuple #[])) w') : wpList P ops Q (o :: rest) a w := by
  refine wpList_plain hg fun K' hK' => ?_
  obtain ⟨w', hrun, ht'⟩ := rng_delete (ty := o.type) ht K h hk hin hnt
  unfold Oper.wp
  simp [execOp, hop, resolve, invoke, builtin, hm, hx, hrun, Result.andThen]
  exact hK' _ _ (hK w' ht')
end
end
end Go.Hp
