/- Plain: a table of ints and the document's agree. -/
import Derived.Test.YtmpkjfengfgagaaTmDI
import Derived.Test.YtmpkjfengfgagaaTmRi
import Derived.Sort.Walk0
namespace Go.Proofs.Ytmpkjfengfgagaa.Ti
open Go.RowKit Go.Hp
attribute [local go_sem] min2_lean min_two max2_lean max_two
set_option linter.unusedSimpArgs false
set_option linter.unusedVariables false
set_option maxRecDepth 100000
open Tf
theorem bef_iff (a b : Nm) : bef a b = true ↔ a.1 < b.1 ∨ (a.1 = b.1 ∧ a.2 < b.2) := by
  unfold bef
  rw [bytesLess_eq]
  simp
theorem bef_irr (a : Nm) : bef a a = false := by
  rw [← Bool.not_eq_true, bef_iff]
  rintro (h | ⟨_, h⟩)
  · exact List.lt_irrefl _ h
  · omega
theorem bef_trans {a b c : Nm} (h1 : bef a b = true) (h2 : bef b c = true) : bef a c = true := by
  rw [bef_iff] at h1 h2 ⊢
  rcases h1 with h1 | ⟨e1, h1⟩
  · rcases h2 with h2 | ⟨e2, h2⟩
    · exact Or.inl (List.lt_trans h1 h2)
    · exact Or.inl (by rw [← e2]; exact h1)
  · rcases h2 with h2 | ⟨e2, h2⟩
    · exact Or.inl (by rw [e1]; exact h2)
    · exact Or.inr ⟨e1.trans e2, by omega⟩
theorem bef_total {a b : Nm} (h1 : ¬ bef a b = true) (h2 : a ≠ b) : bef b a = true := by
  rw [bef_iff] at h1 ⊢
  by_cases e : a.1 = b.1
  · refine Or.inr ⟨e.symm, ?_⟩
    have h3 : ¬ a.2 < b.2 := fun h => h1 (Or.inr ⟨e, h⟩)
    have h4 : a.2 ≠ b.2 := fun h => h2 (Prod.ext e h)
    omega
  · have h3 : ¬ a.1 < b.1 := fun h => h1 (Or.inl h)
    left
    by_cases h5 : b.1 < a.1
    · exact h5
    · exact absurd (List.le_antisymm (List.not_lt.1 h5) (List.not_lt.1 h3)) e
abbrev emb (k : Int) : Nm := ([], k)
abbrev une (x : Nm) : Int := x.2
theorem une_emb (k : Int) : une (emb k) = k := rfl
theorem emb_inj {a b : Int} (h : emb a = emb b) : a = b := congrArg une h
theorem bef_emb (a b : Int) : bef (emb a) (emb b) = true ↔ a < b := by
  rw [bef_iff]
  simp [emb]
/-- The table and the document's: the same names, each with the same left; the document's rise. -/
structure Rel (l : Tb) (r : Rt) : Prop where
  srt : (nms r).Pairwise fun a b => bef a b = true
  mem : ∀ k q, (emb k, q) ∈ r ↔ (k, q) ∈ l
  nm : ∀ x ∈ r, ∃ k, x.1 = emb k
theorem nd_of_map {α β : Type} (f : α → β) {l : List α} (h : (l.map f).Nodup) : l.Nodup := (List.pairwise_map.1 h).imp fun {a b} hab e => hab (congrArg f e)
theorem nms_nd {r : Rt} (h : (nms r).Pairwise fun a b => bef a b = true) : (nms r).Nodup := h.imp fun {a b} hab e => by
  rw [e, bef_irr] at hab
  exact absurd hab (by decide)
theorem nms_at {r : Rt} {i : Nat} {x : Nm × Int} (h : r[i]? = some x) : (nms r)[i]? = some x.1 := by rw [nms, List.getElem?_map, h]; rfl
theorem nms_inj {r : Rt} (h : (nms r).Nodup) {i j : Nat} {x y : Nm × Int} (hi : r[i]? = some x) (hj : r[j]? = some y) (e : x.1 = y.1) : i = j :=
  (List.getElem?_inj (by rw [nms_len]; exact (List.getElem?_eq_some_iff.1 hi).1) h).1 ((nms_at hi).trans (by rw [e]; exact (nms_at hj).symm))
theorem Rel.nil : Rel [] [] := ⟨List.Pairwise.nil, fun k q => by simp, fun x hx => by simp at hx⟩
theorem plc_no {r : Rt} {k : Nm} (h : plc r k = none) {x : Nm × Int} (hx : x ∈ r) : x.1 ≠ k := by
  unfold plc at h
  rw [List.findIdx?_eq_none_iff] at h
  simpa using h x hx
theorem Rel.gone {l : Tb} {r : Rt} (h : Rel l r) (hn : (mkeys l).Nodup) {k : Int} (hp : plc r (emb k) = none) : mget l k = none := by
  cases hg : mget l k with
  | none => rfl
  | some v => exact absurd rfl (plc_no hp ((h.mem k v).2 ((mget_iff hn).1 hg)))
theorem Rel.found {l : Tb} {r : Rt} (h : Rel l r) (hn : (mkeys l).Nodup) {k : Int} {i : Nat} (hp : plc r (emb k) = some i) : ∃ q, r[i]? = some (emb k, q) ∧ mget l k = some q := by
  obtain ⟨q, hq⟩ := plc_lt hp
  exact ⟨q, hq, (mget_iff hn).2 ((h.mem k q).1 (List.mem_of_getElem? hq))⟩
theorem Rel.isSome {l : Tb} {r : Rt} (h : Rel l r) (hn : (mkeys l).Nodup) (k : Int) : (plc r (emb k)).isSome = (mget l k).isSome := by
  cases hp : plc r (emb k) with
  | none => rw [h.gone hn hp]; rfl
  | some i =>
    obtain ⟨q, _, hg⟩ := h.found hn hp
    rw [hg]
    rfl
theorem Rel.left {l : Tb} {r : Rt} (h : Rel l r) (hn : (mkeys l).Nodup) (k : Int) : rleft r (emb k) = ((mget l k).getD 0, (mget l k).isSome) := by
  cases hp : plc r (emb k) with
  | none => rw [h.gone hn hp, rleft, hp]; rfl
  | some i =>
    obtain ⟨q, hq, hg⟩ := h.found hn hp
    rw [hg, rleft, hp]
    simp [hq]
theorem Rel.perm {l : Tb} {r : Rt} (h : Rel l r) (hn : (mkeys l).Nodup) : r.Perm (l.map fun x => (emb x.1, x.2)) := by
  have n1 : r.Nodup := nd_of_map Prod.fst (nms_nd h.srt)
  have n2 : (l.map fun x => (emb x.1, x.2)).Nodup := by
    have h3 : (mkeys (l.map fun x => (emb x.1, x.2))).Nodup := by
      unfold mkeys at hn ⊢
      rw [List.map_map]
      have : ((Prod.fst : Nm × Int → Nm) ∘ fun x : Int × Int => (emb x.1, x.2)) = emb ∘ Prod.fst := rfl
      rw [this, ← List.map_map]
      exact List.Pairwise.map _ (fun a b hab e => hab (emb_inj e)) hn
    exact nd_of_map Prod.fst h3
  refine (List.perm_ext_iff_of_nodup n1 n2).2 fun x => ?_
  obtain ⟨y, q⟩ := x
  constructor
  · intro hx
    obtain ⟨k, rfl⟩ := h.nm _ hx
    exact List.mem_map.2 ⟨(k, q), (h.mem k q).1 hx, rfl⟩
  · intro hx
    obtain ⟨⟨k, q'⟩, hk, e⟩ := List.mem_map.1 hx
    cases e
    exact (h.mem k q').2 hk
theorem Rel.len {l : Tb} {r : Rt} (h : Rel l r) (hn : (mkeys l).Nodup) : r.length = l.length := by rw [(h.perm hn).length_eq, List.length_map]
theorem Rel.eArm {l : Tb} {r : Rt} (h : Rel l r) (hn : (mkeys l).Nodup) (k : Int) (t : Int) : rarmE r (emb k) t = armE l k t := by
  unfold rarmE armE
  rw [h.len hn]
  have h1 := h.isSome hn k
  by_cases hp : plc r (emb k) = none
  · have : (mget l k).isSome = false := by rw [← h1, hp]; rfl
    simp [hp, this]
  · have : ¬ (mget l k).isSome = false := by
      rw [← h1]
      intro e
      exact hp (by simpa using e)
    rw [if_neg (fun e => hp e.1 : ¬ (plc r (emb k) = none ∧ 32 ≤ l.length)), if_neg (fun e => this e.1 : ¬ ((mget l k).isSome = false ∧ 32 ≤ l.length))]
theorem rins_mem (k : Nm) (q : Int) : ∀ {r : Rt} {x : Nm × Int}, x ∈ rins k q r ↔ x = (k, q) ∨ x ∈ r
  | [], x => by simp [rins]
  | y :: t, x => by
    rw [rins]
    split
    · simp
    · rw [List.mem_cons, rins_mem k q, List.mem_cons]
      constructor
      · rintro (h | h | h)
        · exact Or.inr (Or.inl h)
        · exact Or.inl h
        · exact Or.inr (Or.inr h)
      · rintro (h | h | h)
        · exact Or.inr (Or.inl h)
        · exact Or.inl h
        · exact Or.inr (Or.inr h)
theorem rins_srt (k : Nm) (q : Int) : ∀ {r : Rt}, (nms r).Pairwise (fun a b => bef a b = true) → (∀ x ∈ r, x.1 ≠ k) → (nms (rins k q r)).Pairwise (fun a b => bef a b = true)
  | [], _, _ => by simp [rins, nms]
  | y :: t, h, hk => by
    rw [rins]
    have h' : (y.1 :: nms t).Pairwise (fun a b => bef a b = true) := h
    rw [List.pairwise_cons] at h'
    split
    · rename_i hb
      show (k :: y.1 :: nms t).Pairwise _
      rw [List.pairwise_cons]
      refine ⟨fun z hz => ?_, h⟩
      rcases List.mem_cons.1 hz with rfl | hz
      · exact hb
      · exact bef_trans hb (h'.1 z hz)
    · rename_i hb
      show (y.1 :: nms (rins k q t)).Pairwise _
      rw [List.pairwise_cons]
      refine ⟨fun z hz => ?_, rins_srt k q h'.2 fun x hx => hk x (List.mem_cons_of_mem _ hx)⟩
      obtain ⟨x, hx, rfl⟩ := List.mem_map.1 hz
      rcases (rins_mem k q).1 hx with rfl | hx
      · exact bef_total hb (fun e => hk y (List.mem_cons_self ..) e.symm)
      · exact h'.1 _ (List.mem_map.2 ⟨x, hx, rfl⟩)
theorem Rel.arm {l : Tb} {r : Rt} (h : Rel l r) (hn : (mkeys l).Nodup) (k : Int) (t : Int) : Rel (armL l k t) (rarmL r (emb k) t) := by
  unfold armL rarmL
  rw [h.eArm hn]
  by_cases h0 : armE l k t = 0
  · rw [if_pos h0, if_pos h0]
    cases hp : plc r (emb k) with
    | none =>
      show Rel (mput l k t) (rins (emb k) t r)
      refine ⟨rins_srt _ _ h.srt fun x hx => plc_no hp hx, fun k' q => ?_, fun x hx => ?_⟩
      · rw [rins_mem, mem_mput]
        constructor
        · rintro (e | hm)
          · injection e with e1 e2
            rw [emb_inj e1, e2]
            exact Or.inr rfl
          · exact Or.inl ⟨fun e => plc_no hp hm (by rw [show k' = k from e]), (h.mem k' q).1 hm⟩
        · rintro (⟨_, hm⟩ | e)
          · exact Or.inr ((h.mem k' q).2 hm)
          · injection e with e1 e2
            rw [e1, e2]
            exact Or.inl rfl
      · rcases (rins_mem _ _).1 hx with rfl | hx
        · exact ⟨k, rfl⟩
        · exact h.nm x hx
    | some i =>
      show Rel (mput l k t) (r.set i (emb k, t))
      obtain ⟨q0, hq, hg⟩ := h.found hn hp
      obtain ⟨hi, hq2⟩ := List.getElem?_eq_some_iff.1 hq
      have hnms : nms (r.set i (emb k, t)) = nms r := by
        unfold nms
        rw [List.map_set]
        have : (List.map (fun x : Nm × Int => x.1) r)[i]'(by rw [List.length_map]; exact hi) = emb k := by rw [List.getElem_map, hq2]
        rw [← this]
        exact List.set_getElem_self _
      have hmem : ∀ x : Nm × Int, x ∈ r.set i (emb k, t) ↔ (x.1 ≠ emb k ∧ x ∈ r) ∨ x = (emb k, t) := fun x => by
        rw [List.mem_iff_getElem]
        constructor
        · rintro ⟨j, hj, rfl⟩
          rw [List.length_set] at hj
          rw [List.getElem_set]
          by_cases e : i = j
          · rw [if_pos e]; exact Or.inr rfl
          · rw [if_neg e]
            exact Or.inl ⟨fun e2 => e (nms_inj (nms_nd h.srt) hq (List.getElem?_eq_getElem hj) e2.symm), List.getElem_mem hj⟩
        · rintro (⟨hne, hx⟩ | rfl)
          · obtain ⟨j, hj, rfl⟩ := List.mem_iff_getElem.1 hx
            refine ⟨j, by rw [List.length_set]; exact hj, ?_⟩
            rw [List.getElem_set, if_neg]
            rintro rfl
            exact hne (by rw [hq2])
          · exact ⟨i, by rw [List.length_set]; exact hi, by rw [List.getElem_set, if_pos rfl]⟩
      refine ⟨by rw [hnms]; exact h.srt, fun k' q => ?_, fun x hx => ?_⟩
      · rw [hmem, mem_mput, h.mem]
        constructor
        · rintro (⟨h1, h2⟩ | e)
          · exact Or.inl ⟨fun e => h1 (by rw [show k' = k from e]), h2⟩
          · injection e with e1 e2
            rw [emb_inj e1, e2]
            exact Or.inr rfl
        · rintro (⟨h1, h2⟩ | e)
          · exact Or.inl ⟨fun e => h1 (emb_inj e), h2⟩
          · injection e with e1 e2
            rw [e1, e2]
            exact Or.inr rfl
      · rcases (hmem x).1 hx with ⟨_, hx⟩ | rfl
        · exact h.nm x hx
        · exact ⟨k, rfl⟩
  · rw [if_neg h0, if_neg h0]
    exact h
theorem Rel.cancel {l : Tb} {r : Rt} (h : Rel l r) (hn : (mkeys l).Nodup) (k : Int) : Rel (mdel l k) (rcancel r (emb k)) := by
  have hdel : ∀ y : Int × Int, y ∈ mdel l k ↔ y.1 ≠ k ∧ y ∈ l := fun y => by unfold mdel; rw [List.mem_filter]; simp [and_comm]
  unfold rcancel
  cases hp : plc r (emb k) with
  | none =>
    refine ⟨h.srt, fun k' q => ?_, h.nm⟩
    rw [hdel, h.mem]
    refine ⟨fun hm => ⟨fun e => plc_no hp ((h.mem k' q).2 hm) (by rw [show k' = k from e]), hm⟩, fun hm => hm.2⟩
  | some i =>
    obtain ⟨q0, hq, hg⟩ := h.found hn hp
    obtain ⟨hi, hq2⟩ := List.getElem?_eq_some_iff.1 hq
    have hmem : ∀ x : Nm × Int, x ∈ r.eraseIdx i ↔ x.1 ≠ emb k ∧ x ∈ r := fun x => by
      rw [List.mem_eraseIdx_iff_getElem]
      constructor
      · rintro ⟨j, hj, hne, rfl⟩
        exact ⟨fun e => hne (nms_inj (nms_nd h.srt) (List.getElem?_eq_getElem hj) hq e), List.getElem_mem hj⟩
      · rintro ⟨hne, hx⟩
        obtain ⟨j, hj, rfl⟩ := List.mem_iff_getElem.1 hx
        refine ⟨j, hj, ?_, rfl⟩
        rintro rfl
        exact hne (by rw [hq2])
    refine ⟨?_, fun k' q => ?_, fun x hx => h.nm x ((hmem x).1 hx).2⟩
    · have hs : (nms (r.eraseIdx i)).Sublist (nms r) := (List.eraseIdx_sublist r i).map _
      exact h.srt.sublist hs
    · show (emb k', q) ∈ r.eraseIdx i ↔ _
      rw [hmem, hdel, h.mem]
      exact ⟨fun ⟨a, b⟩ => ⟨fun e => a (by rw [show k' = k from e]), b⟩, fun ⟨a, b⟩ => ⟨fun e => a (emb_inj e), b⟩⟩
theorem mem_cur {l : Tb} {k : Int} {q : Int} : (k, q) ∈ cur l [] ↔ q ≠ 0 ∧ (k, q + 1) ∈ l := by
  unfold cur
  rw [List.mem_filterMap]
  constructor
  · rintro ⟨⟨k', q'⟩, hm, e⟩
    simp only [List.not_mem_nil, if_false] at e
    split at e
    · cases e
    · rename_i h1
      injection e with e
      injection e with e1 e2
      subst e1
      have : q' = q + 1 := by omega
      subst this
      exact ⟨fun e => h1 (by show q + 1 = 1; omega), hm⟩
  · rintro ⟨h1, h2⟩
    refine ⟨(k, q + 1), h2, ?_⟩
    simp only [List.not_mem_nil, if_false]
    rw [if_neg (by show ¬ q + 1 = 1; omega)]
    simp
theorem Rel.tick {l : Tb} {r : Rt} (h : Rel l r) : Rel (cur l []) (rtickL r) := by
  have hmem : ∀ x : Nm × Int, x ∈ rtickL r ↔ x.2 ≠ 0 ∧ (x.1, x.2 + 1) ∈ r := fun x => by
    unfold rtickL
    rw [List.mem_filter, List.mem_map]
    constructor
    · rintro ⟨⟨y, hy, rfl⟩, h2⟩
      refine ⟨by simpa using h2, ?_⟩
      have : ((dec y).1, (dec y).2 + 1) = y := by simp [dec]
      rw [this]
      exact hy
    · rintro ⟨h1, h2⟩
      exact ⟨⟨_, h2, by simp [dec]⟩, by simpa using h1⟩
  refine ⟨?_, fun k q => ?_, fun x hx => ?_⟩
  · have hs : (nms (rtickL r)).Sublist (nms r) := by
      unfold rtickL nms
      have := (List.filter_sublist (p := fun x : Nm × Int => !decide (x.2 = 0)) (l := r.map dec)).map (fun x : Nm × Int => x.1)
      rw [List.map_map] at this
      exact this
    exact h.srt.sublist hs
  · rw [hmem, mem_cur]
    exact and_congr_right fun _ => h.mem k (q + 1)
  · obtain ⟨k, hk⟩ := h.nm _ ((hmem x).1 hx).2
    exact ⟨k, hk⟩
theorem srt_eq {o p : List Int} (h : o.Perm p) (hp : p.Pairwise fun a b => a < b) : srtK o = p := by
  rw [srt_perm h]
  unfold srtK
  exact List.mergeSort_of_pairwise (hp.imp fun {a b} hab => by simpa using Int.le_of_lt hab)
theorem une_srt {X : List Nm} (h : X.Pairwise fun a b => bef a b = true) (he : ∀ x ∈ X, ∃ k, x = emb k) : (X.map une).Pairwise fun a b => a < b := by
  rw [List.pairwise_map]
  refine h.imp_of_mem fun {a b} ha hb hab => ?_
  obtain ⟨k1, rfl⟩ := he a ha
  obtain ⟨k2, rfl⟩ := he b hb
  exact (bef_emb k1 k2).1 hab
theorem lt_nd {p : List Int} (h : p.Pairwise fun a b => a < b) : p.Nodup := h.imp fun {a b} hab e => by
  rw [e] at hab
  exact Int.lt_irrefl _ hab
theorem Rel.armed {l : Tb} {r : Rt} (h : Rel l r) (hn : (mkeys l).Nodup) : srtK (mkeys l) = (nms r).map une := by
  have he : ∀ x ∈ nms r, ∃ k, x = emb k := fun x hx => by
    obtain ⟨y, hy, rfl⟩ := List.mem_map.1 hx
    exact h.nm y hy
  have hs := une_srt h.srt he
  refine srt_eq ((List.perm_ext_iff_of_nodup hn (lt_nd hs)).2 fun k => ?_) hs
  unfold mkeys nms
  rw [List.map_map, List.mem_map, List.mem_map]
  constructor
  · rintro ⟨⟨k', q⟩, hm, rfl⟩
    exact ⟨_, (h.mem k' q).2 hm, rfl⟩
  · rintro ⟨⟨y, q⟩, hm, rfl⟩
    obtain ⟨k', hk⟩ := h.nm _ hm
    have hk : y = emb k' := hk
    subst hk
    exact ⟨(k', q), (h.mem k' q).1 hm, rfl⟩
theorem Rel.tells {l : Tb} {r : Rt} (h : Rel l r) (hn : (mkeys l).Nodup) {o : List Int} (ho : o.Perm (told l [])) : srtK o = (rtold r).map une := by
  have hmem : ∀ y : Nm, y ∈ rtold r ↔ (y, 1) ∈ r := fun y => by
    unfold rtold nms
    rw [List.mem_map]
    constructor
    · rintro ⟨x, hx, rfl⟩
      rw [List.mem_filter, List.mem_map] at hx
      obtain ⟨⟨z, hz, rfl⟩, h2⟩ := hx
      have h3 : z.2 - 1 = 0 := of_decide_eq_true h2
      have : ((dec z).1, (1 : Int)) = z := by
        obtain ⟨z1, z2⟩ := z
        have : z2 = 1 := by omega
        simp [dec, this]
      rw [this]
      exact hz
    · intro hy
      exact ⟨(y, 0), List.mem_filter.2 ⟨List.mem_map.2 ⟨_, hy, rfl⟩, rfl⟩, rfl⟩
  have hsub : (rtold r).Sublist (nms r) := by
    unfold rtold nms
    have := (List.filter_sublist (p := fun x : Nm × Int => decide (x.2 = 0)) (l := r.map dec)).map (fun x : Nm × Int => x.1)
    rw [List.map_map] at this
    exact this
  have he : ∀ x ∈ rtold r, ∃ k, x = emb k := fun x hx => h.nm _ ((hmem x).1 hx)
  have hs := une_srt (h.srt.sublist hsub) he
  refine srt_eq (ho.trans ((List.perm_ext_iff_of_nodup (told_nd hn []) (lt_nd hs)).2 fun k => ?_)) hs
  rw [mem_told, List.mem_map]
  constructor
  · rintro ⟨hm, _⟩
    exact ⟨emb k, (hmem _).2 ((h.mem k 1).2 hm), rfl⟩
  · rintro ⟨y, hy, rfl⟩
    obtain ⟨k', rfl⟩ := he y hy
    exact ⟨(h.mem k' 1).1 ((hmem _).1 hy), by simp⟩
/-- What the document holds: within bounds. -/
theorem Rel.rng {l : Tb} {r : Rt} (h : Rel l r) (ho : okT l) : r.length ≤ 32 ∧ ∀ x ∈ r, 1 ≤ x.2 ∧ x.2 ≤ 1024 := by
  refine ⟨by rw [h.len ho.1]; exact ho.2.1, fun x hx => ?_⟩
  obtain ⟨k, hk⟩ := h.nm x hx
  obtain ⟨y, q⟩ := x
  have hk : y = emb k := hk
  subst hk
  exact ho.2.2 _ ((h.mem k q).1 hx)
end Go.Proofs.Ytmpkjfengfgagaa.Ti
