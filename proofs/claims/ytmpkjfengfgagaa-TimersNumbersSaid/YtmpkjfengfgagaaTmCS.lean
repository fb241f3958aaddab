/- Tables of strings: what calls do to a name. Plain. -/
import Derived.Test.YtmpkjfengfgagaaTmBS
namespace Go.Proofs.Ytmpkjfengfgagaa.Ts
open Go.RowKit Go.Hp
attribute [local go_sem] min2_lean min_two max2_lean max_two
set_option linter.unusedSimpArgs false
set_option linter.unusedVariables false
set_option maxRecDepth 100000
def okT (l : Tb) : Prop := (mkeys l).Nodup ∧ l.length ≤ 32 ∧ ∀ x ∈ l, 1 ≤ x.2 ∧ x.2 ≤ 1024
theorem ok_nil : okT [] := ⟨by simp [mkeys], by simp, fun x hx => by simp at hx⟩
theorem mget_iff {l : Tb} (hn : (mkeys l).Nodup) {k : (List UInt8)} {v : Int} : mget l k = some v ↔ (k, v) ∈ l := by
  refine ⟨mget_mem2, fun h => ?_⟩
  obtain ⟨i, hi⟩ := mix_mem (l := l) (k := k) (List.mem_map.2 ⟨_, h, rfl⟩)
  obtain ⟨v', h1, h2, _⟩ := mix_some hi
  have h3 := nd_mem hn (List.mem_of_getElem? h1) h rfl
  rw [h2]
  cases h3
  rfl
theorem mget_ext {a b : Option Int} (h : ∀ v, a = some v ↔ b = some v) : a = b := by
  cases a with
  | none => cases b with
    | none => rfl
    | some v => exact absurd ((h v).2 rfl) (by simp)
  | some v => exact ((h v).1 rfl).symm
theorem mem_mset {l : Tb} {k : (List UInt8)} {v : Int} {y : (List UInt8) × Int} : y ∈ mset l k v ↔ (y.1 ≠ k ∧ y ∈ l) ∨ (y = (k, v) ∧ k ∈ mkeys l) := by
  unfold mset
  rw [List.mem_map]
  constructor
  · rintro ⟨x, hx, rfl⟩
    by_cases e : x.1 = k
    · rw [if_pos e]; exact Or.inr ⟨rfl, List.mem_map.2 ⟨x, hx, e⟩⟩
    · rw [if_neg e]; exact Or.inl ⟨e, hx⟩
  · rintro (⟨h1, h2⟩ | ⟨rfl, h2⟩)
    · exact ⟨y, h2, if_neg h1⟩
    · obtain ⟨x, hx, e⟩ := List.mem_map.1 h2
      exact ⟨x, hx, if_pos e⟩
theorem mem_mput {l : Tb} {k : (List UInt8)} {v : Int} {y : (List UInt8) × Int} : y ∈ mput l k v ↔ (y.1 ≠ k ∧ y ∈ l) ∨ y = (k, v) := by
  unfold mput
  split
  · rename_i h
    rw [mem_mset]
    simp [h]
  · rename_i h
    rw [List.mem_append, List.mem_singleton]
    constructor
    · rintro (h1 | h1)
      · exact Or.inl ⟨fun e => h (e ▸ List.mem_map.2 ⟨y, h1, rfl⟩), h1⟩
      · exact Or.inr h1
    · rintro (h1 | h1)
      · exact Or.inl h1.2
      · exact Or.inr h1
theorem mget_put {l : Tb} (hn : (mkeys l).Nodup) (k k' : (List UInt8)) (v : Int) : mget (mput l k v) k' = if k' = k then some v else mget l k' := by
  refine mget_ext fun u => ?_
  rw [mget_iff (mput_nd hn k v), mem_mput]
  by_cases e : k' = k
  · rw [if_pos e]
    subst e
    simp [eq_comm]
  · rw [if_neg e, mget_iff hn]
    simp [e]
theorem mget_del {l : Tb} (hn : (mkeys l).Nodup) (k k' : (List UInt8)) : mget (mdel l k) k' = if k' = k then none else mget l k' := by
  refine mget_ext fun u => ?_
  rw [mget_iff (mdel_nd hn k)]
  unfold mdel
  rw [List.mem_filter]
  by_cases e : k' = k
  · rw [if_pos e]; simp [e]
  · rw [if_neg e, mget_iff hn]; simp [e]
theorem cur_keys (l : Tb) (todo : List (List UInt8)) : (mkeys (cur l todo)).Sublist (mkeys l) := by
  unfold mkeys cur
  induction l with
  | nil => exact List.Sublist.refl _
  | cons x l ih =>
    rw [List.filterMap_cons]
    split
    · exact ih.trans (List.sublist_cons_self _ _)
    · rename_i y hy
      have e : y.1 = x.1 := by
        split at hy
        · cases hy; rfl
        · split at hy
          · cases hy
          · cases hy; rfl
      rw [List.map_cons, List.map_cons, e]
      exact ih.cons_cons _
theorem ok_cur {l : Tb} (h : okT l) : okT (cur l []) := by
  refine ⟨(cur_keys l []).nodup h.1, ?_, fun y hy => ?_⟩
  · have := (cur_keys l []).length_le
    simp only [mkeys, List.length_map] at this
    have := h.2.1
    omega
  · unfold cur at hy
    obtain ⟨x, hx, hf⟩ := List.mem_filterMap.1 hy
    have := h.2.2 x hx
    simp only [List.not_mem_nil, if_false] at hf
    split at hf
    · cases hf
    · cases hf; simp only []; omega
theorem mget_cur {l : Tb} (hn : (mkeys l).Nodup) (k : (List UInt8)) : mget (cur l []) k = (mget l k).bind fun v => if v = 1 then none else some (v - 1) := by
  refine mget_ext fun u => ?_
  rw [mget_iff ((cur_keys l []).nodup hn)]
  unfold cur
  rw [List.mem_filterMap]
  simp only [List.not_mem_nil, if_false]
  constructor
  · rintro ⟨x, hx, hf⟩
    split at hf
    · cases hf
    · rename_i h1
      injection hf with h2
      have h3 : x.1 = k := congrArg Prod.fst h2
      have h4 : x.2 - 1 = u := congrArg Prod.snd h2
      have h5 : mget l k = some x.2 := (mget_iff hn).2 (by rw [← h3]; exact hx)
      rw [h5, Option.bind_some, if_neg h1, h4]
  · intro h
    obtain ⟨v, hv, h2⟩ := Option.bind_eq_some_iff.1 h
    refine ⟨(k, v), mget_mem2 hv, ?_⟩
    split at h2
    · cases h2
    · rename_i h3
      simp only [if_neg h3]
      cases h2; rfl
theorem ok_arm {l : Tb} (h : okT l) (k : (List UInt8)) (t : Int) : okT (armL l k t) := by
  unfold armL
  split
  · rename_i hE
    unfold armE at hE
    split at hE
    · cases hE
    · rename_i h1
      split at hE
      · cases hE
      · rename_i h2
        refine ⟨mput_nd h.1 k t, ?_, fun y hy => ?_⟩
        · unfold mput
          split
          · unfold mset; rw [List.length_map]; exact h.2.1
          · rename_i h3
            have h4 : (mget l k).isSome = false := by
              cases hs : (mget l k).isSome
              · rfl
              · exact absurd (mget_mem.1 hs) h3
            have h5 : ¬ 32 ≤ l.length := fun h5 => h2 ⟨h4, h5⟩
            rw [List.length_append, List.length_singleton]
            omega
        · rcases mem_mput.1 hy with h3 | rfl
          · exact h.2.2 y h3.2
          · simp only []; omega
  · exact h
theorem ok_del {l : Tb} (h : okT l) (k : (List UInt8)) : okT (mdel l k) := by
  refine ⟨mdel_nd h.1 k, ?_, fun y hy => h.2.2 y (List.mem_filter.1 hy).1⟩
  have := List.length_filter_le (fun x : (List UInt8) × Int => decide (x.1 ≠ k)) l
  have := h.2.1
  unfold mdel
  omega
theorem mget_arm {l : Tb} (hn : (mkeys l).Nodup) (k k' : (List UInt8)) (t : Int) : mget (armL l k t) k' = if armE l k t = 0 ∧ k' = k then some t else mget l k' := by
  unfold armL
  split
  · rename_i h
    rw [mget_put hn]
    simp [h]
  · rename_i h
    simp [h]
theorem told_count {l : Tb} (hn : (mkeys l).Nodup) {o : List (List UInt8)} (hp : o.Perm (told l [])) (k : (List UInt8)) : (srtK o).count k = if mget l k = some 1 then 1 else 0 := by
  have h1 : (srtK o).count k = (told l []).count k := by
    unfold srtK
    rw [(List.mergeSort_perm o _).count_eq, hp.count_eq]
  rw [h1]
  split
  · rename_i h
    rw [List.Nodup.count (told_nd hn []), if_pos (mem_told.2 ⟨mget_mem2 h, by simp⟩)]
  · rename_i h
    exact List.count_eq_zero_of_not_mem fun hm => h ((mget_iff hn).2 (mem_told.1 hm).1)
theorem srt_len (o : List (List UInt8)) : (srtK o).length = o.length := by unfold srtK; simp
end Go.Proofs.Ytmpkjfengfgagaa.Ts
