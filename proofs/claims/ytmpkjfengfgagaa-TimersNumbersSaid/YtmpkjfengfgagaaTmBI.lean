/- Package timers: tables of ints: Tick. -/
import Derived.Test.YtmpkjfengfgagaaTmAI
import Derived.Deep.LoopGhost
namespace Go.Proofs.Ytmpkjfengfgagaa.Ti
open Go.RowKit Go.Hp
attribute [local go_sem] min2_lean min_two max2_lean max_two
set_option linter.unusedSimpArgs false
set_option linter.unusedVariables false
set_option maxRecDepth 100000
/-- A table while a tick goes over it: these keys are to come. -/
def cur (l : Tb) (todo : List Int) : Tb := l.filterMap fun x => if x.1 ∈ todo then some x else if x.2 = 1 then none else some (x.1, x.2 - 1)
def told (l : Tb) (todo : List Int) : List Int := (l.filter fun x => decide (x.1 ∉ todo) && decide (x.2 = 1)).map Prod.fst
theorem fm_congr {α β : Type} {f g : α → Option β} : ∀ {l : List α}, (∀ x ∈ l, f x = g x) → l.filterMap f = l.filterMap g
  | [], _ => rfl
  | x :: l, h => by
    rw [List.filterMap_cons, List.filterMap_cons, h x (List.mem_cons_self ..), fm_congr fun y hy => h y (List.mem_cons_of_mem _ hy)]
theorem cur_start (l : Tb) : cur l (mkeys l) = l := by
  unfold cur
  have h : ∀ x ∈ l, (if x.1 ∈ mkeys l then some x else if x.2 = 1 then none else some (x.1, x.2 - 1)) = some x := fun x hx => if_pos (List.mem_map.2 ⟨x, hx, rfl⟩)
  rw [fm_congr h, List.filterMap_some]
theorem told_start (l : Tb) : told l (mkeys l) = [] := by
  unfold told
  rw [List.map_eq_nil_iff, List.filter_eq_nil_iff]
  intro x hx
  have : x.1 ∈ mkeys l := List.mem_map.2 ⟨x, hx, rfl⟩
  simp [this]
theorem mget_mem2 {l : Tb} {k : Int} {v : Int} (h : mget l k = some v) : (k, v) ∈ l := by
  unfold mget at h
  obtain ⟨x, hx, rfl⟩ := Option.map_eq_some_iff.1 h
  have h1 := List.find?_some hx
  have h2 := List.mem_of_find?_eq_some hx
  have : x.1 = k := by simpa using h1
  rw [← this]
  exact h2
theorem nd_mem {l : Tb} (hn : (mkeys l).Nodup) {x y : Int × Int} (hx : x ∈ l) (hy : y ∈ l) (h : x.1 = y.1) : x = y := by
  obtain ⟨i, hi⟩ := List.getElem?_of_mem hx
  obtain ⟨j, hj⟩ := List.getElem?_of_mem hy
  obtain rfl := nd_at hn hi hj h
  rw [hi] at hj
  exact Option.some.inj hj
theorem cur_mem {l : Tb} {todo : List Int} {k : Int} {v : Int} (hk : k ∈ todo) (h : mget (cur l todo) k = some v) : (k, v) ∈ l := by
  have h1 := mget_mem2 h
  unfold cur at h1
  obtain ⟨x, hx, hf⟩ := List.mem_filterMap.1 h1
  split at hf
  · cases hf; exact hx
  · rename_i hn
    split at hf
    · cases hf
    · injection hf with h2
      have h3 : x.1 = k := congrArg Prod.fst h2
      exact absurd (h3 ▸ hk) hn
theorem mem_strike {todo : List Int} {k y : Int} : y ∈ mstrike todo k ↔ y ∈ todo ∧ y ≠ k := by unfold mstrike; rw [List.mem_filter]; simp
theorem cur_del {l : Tb} (hn : (mkeys l).Nodup) {todo : List Int} {k : Int} (hk : k ∈ todo) (h : (k, 1) ∈ l) : mdel (cur l todo) k = cur l (mstrike todo k) := by
  unfold mdel cur
  rw [List.filter_filterMap]
  refine fm_congr fun x hx => ?_
  by_cases e : x.1 = k
  · have hxe := nd_mem hn hx h e
    subst hxe
    rw [if_pos hk, if_neg (fun h => (mem_strike.1 h).2 rfl), if_pos rfl]
    simp
  · by_cases ht : x.1 ∈ todo
    · rw [if_pos ht, if_pos (mem_strike.2 ⟨ht, e⟩)]
      simp [e]
    · rw [if_neg ht, if_neg (fun h => ht (mem_strike.1 h).1)]
      split
      · rfl
      · simp [e]
theorem cur_set {l : Tb} (hn : (mkeys l).Nodup) {todo : List Int} {k : Int} {v : Int} (hk : k ∈ todo) (h : (k, v) ∈ l) (hv : v ≠ 1) : mset (cur l todo) k (v - 1) = cur l (mstrike todo k) := by
  unfold mset cur
  rw [List.map_filterMap]
  refine fm_congr fun x hx => ?_
  by_cases e : x.1 = k
  · have hxe := nd_mem hn hx h e
    subst hxe
    rw [if_pos hk, if_neg (fun h => (mem_strike.1 h).2 rfl), if_neg hv]
    simp
  · by_cases ht : x.1 ∈ todo
    · rw [if_pos ht, if_pos (mem_strike.2 ⟨ht, e⟩)]
      simp [e]
    · rw [if_neg ht, if_neg (fun h => ht (mem_strike.1 h).1)]
      split
      · rfl
      · simp [e]
theorem mem_told {l : Tb} {todo : List Int} {y : Int} : y ∈ told l todo ↔ (y, 1) ∈ l ∧ y ∉ todo := by
  unfold told
  rw [List.mem_map]
  constructor
  · rintro ⟨x, hx, rfl⟩
    obtain ⟨h1, h2⟩ := List.mem_filter.1 hx
    simp only [Bool.and_eq_true, decide_eq_true_eq] at h2
    obtain ⟨a, b⟩ := x
    simp only [] at h2 ⊢
    obtain ⟨h3, rfl⟩ := h2
    exact ⟨h1, h3⟩
  · rintro ⟨h1, h2⟩
    exact ⟨(y, 1), List.mem_filter.2 ⟨h1, by simp [h2]⟩, rfl⟩
theorem told_nd {l : Tb} (hn : (mkeys l).Nodup) (todo : List Int) : (told l todo).Nodup := by
  unfold told
  exact ((List.filter_sublist (p := fun x => decide (x.1 ∉ todo) && decide (x.2 = 1)) (l := l)).map Prod.fst).nodup hn
theorem told_len (l : Tb) (todo : List Int) : (told l todo).length ≤ l.length := by unfold told; rw [List.length_map]; exact List.length_filter_le _ _
theorem told_add {l : Tb} (hn : (mkeys l).Nodup) {todo : List Int} {k : Int} {o : List Int} (hk : k ∈ todo) (h : (k, 1) ∈ l) (hp : o.Perm (told l todo)) : (o ++ [k]).Perm (told l (mstrike todo k)) := by
  have hno : o.Nodup := hp.symm.nodup (told_nd hn todo)
  have hko : k ∉ o := fun hm => (mem_told.1 (hp.mem_iff.1 hm)).2 hk
  refine (List.perm_ext_iff_of_nodup ?_ (told_nd hn _)).2 fun a => ?_
  · rw [List.nodup_append]
    exact ⟨hno, by simp, fun x hx y hy => by simp at hy; rintro rfl; subst hy; exact hko hx⟩
  · rw [List.mem_append, List.mem_singleton, hp.mem_iff, mem_told, mem_told, mem_strike]
    constructor
    · rintro (⟨h1, h2⟩ | rfl)
      · exact ⟨h1, fun h3 => h2 h3.1⟩
      · exact ⟨h, fun h3 => h3.2 rfl⟩
    · rintro ⟨h1, h2⟩
      by_cases e : a = k
      · exact Or.inr e
      · exact Or.inl ⟨h1, fun h3 => h2 ⟨h3, e⟩⟩
theorem told_same {l : Tb} (hn : (mkeys l).Nodup) {todo : List Int} {k : Int} {v : Int} {o : List Int} (hk : k ∈ todo) (h : (k, v) ∈ l) (hv : v ≠ 1) (hp : o.Perm (told l todo)) : o.Perm (told l (mstrike todo k)) := by
  refine hp.trans ((List.perm_ext_iff_of_nodup (told_nd hn _) (told_nd hn _)).2 fun a => ?_)
  rw [mem_told, mem_told, mem_strike]
  constructor
  · rintro ⟨h1, h2⟩
    exact ⟨h1, fun h3 => h2 h3.1⟩
  · rintro ⟨h1, h2⟩
    refine ⟨h1, fun h3 => h2 ⟨h3, ?_⟩⟩
    rintro rfl
    exact hv (congrArg Prod.snd (nd_mem hn h1 h rfl)).symm
theorem strike_lt {todo : List Int} {k : Int} (hk : k ∈ todo) : (mstrike todo k).length < todo.length := by
  unfold mstrike
  rw [List.length_filter_lt_length_iff_exists]
  exact ⟨k, hk, by simp⟩
theorem Try.info3 : (Try.prog.info? 3).map (fun i => (i.zero, i.size, i.bytes)) = some (some ((.int .i64 0)), 1, 8) := by kernel_rfl
/-- A slice that the call owns, put in order. -/
def srtK (o : List Int) : List Int := o.mergeSort (fun x y : Int => decide (x ≤ y))
theorem sort_any (A : Option Addr) (n c : Nat) (o : List Int) (w : World) (hn : o.length = n) (hl : n ≤ 1000000) (h : (Hp.Own.row 3 1 (.slice A n c) n (o.map (Value.int .i64))).holds w) :
    Calls Try.prog 124 #[.slice A n c] w fun e w' => e = .returned (.tuple #[]) ∧ Turns w w' (Hp.Own.row 3 1 (.slice A n c) n (o.map (Value.int .i64))) (Hp.Own.row 3 1 (.slice A n c) n ((srtK o).map (Value.int .i64))) := by
  subst hn
  have h' : w.ownsRow 0 3 1 (.slice A o.length c) o.length (o.map (Value.int .i64)) := h
  rcases h'.2 with ⟨hv, h0⟩ | ⟨g, cap, cur, hv, _, hg, hn, hm, hcs, htk⟩
  · have hs : srtK o = [] := by unfold srtK; rw [List.eq_nil_of_length_eq_zero h0, List.mergeSort_nil]
    have ho : o = [] := List.eq_nil_of_length_eq_zero h0
    subst ho
    refine (Try.slices_Sort_int_none A c w).mono fun e w' ⟨he, hw⟩ => ⟨he, ?_⟩
    rw [hs, hw]
    exact Turns.refl h
  · simp only [Value.slice.injEq, true_and] at hv
    obtain ⟨rfl, rfl⟩ := hv
    have HH := holds_of_blockI hg (by simpa using htk)
    refine (Try.slices_Sort_int g 0 c o w HH (Blk.lt (w := w) (b := g) hg) (by omega)).mono fun e w' ⟨he, nd, os, hw⟩ => ⟨he, ?_⟩
    rw [hw]
    refine Turns.row ?_ (grownBy_sortedI _) (Or.inl rfl)
    exact ownsRow_sortedI (by simp) (Nat.zero_le _) hg hn hm hcs
def tickP (g b : Nat) (l : Tb) (w : World) (e : Ending) (w' : World) : Prop := ∃ o A c, o.Perm (told l []) ∧ e = .returned (.slice A o.length c) ∧ Turns w w' (tbO g b l) (Hp.Own.both (Hp.Own.row 3 1 (.slice A o.length c) o.length ((srtK o).map (Value.int .i64))) (tbO g b (cur l [])))
theorem tick_any (g b : Nat) (l : Tb) (w : World) (h : (tbO g b l).holds w) (hn : (mkeys l).Nodup) (hl : l.length ≤ 1000000) (hv : ∀ x ∈ l, 1 ≤ x.2 ∧ x.2 ≤ 1024) :
    Calls Try.prog 104 #[.pointer (some ⟨g, 0, none⟩)] w (tickP g b l w) := by
  have HH := Lib.hid h
  have HM := Lib.hid (tbO_map h)
  have hc := tbO_cell h
  have HK : Hid (KeyL Try.prog 3 intKey) := Lib.hid (key_int Try.underlying3)
  have HN := Lib.hid hn
  have HV := Lib.hid hv
  have HL := Lib.hid hl
  have HCS := Lib.hid (cur_start l)
  have HTS := Lib.hid (told_start l)
  obtain ⟨is, his, hzas, hzbs, hzcs⟩ := info_parts Try.info3
  clear h hn hv hl
  go_enter Try.func104, Try.ntmps104
  go_wp2_with (at_range; refine wpList_rangeM rfl _ 180 rfl Try.underlying180 rfl HM.out ?_; intro w1 ht1; have HT1 := Lib.hid (Turns.rightT HH.out ht1); clear ht1)
  go_frame
  generalize w.heap.size = r at *
  go_loopg [3] l.length (fun gk x3 wr => ∃ (todo : List Int) (o : List Int) (A : Option Addr) (n c : Nat), x3 = .slice A n c ∧ o.length = n ∧ gk = todo.length ∧ o.Perm (told l todo) ∧
    Turns w wr (tbO g b l) (Hp.Own.both (Hp.Own.row 3 1 (.slice A n c) n (o.map (Value.int .i64))) (Hp.Own.both (Hp.Own.blk g #[.map (some b)] 182) (Hp.Own.rng intKey (Value.int .i64) b r (cur l todo) todo))))
  case atStart =>
    refine ⟨mkeys l, [], none, 0, 0, rfl, rfl, by simp [mkeys], by rw [HTS.out], ?_⟩
    rw [HCS.out]
    exact HT1.out.pushNil 3 1
  case round =>
    obtain ⟨todo, o, A, n, c, rfl, hon, rfl, hp, ht⟩ := hrel
    have HT := Lib.hid ht
    have HP := Lib.hid hp
    have HON := Lib.hid hon
    have hnb : n ≤ 1000000 := by
      have h1 := hp.length_eq
      have h2 := told_len l todo
      have h3 := HL.out
      omega
    clear ht hp hon HT1
    have hcb : wr.cell? ⟨g, 0, none⟩ = some (.map (some b)) := HT.out.now.2.1.1.cell 0
    go_wp2_with (at_next; refine wpList_nextM rfl _ rfl rfl HT.out.now.2.1.2.1 ?_ ?_)
    · rintro rfl
      have HSO := Lib.hid (fun W h => sort_any A n c o W HON.out hnb h)
      go_wp2_with (go_at_call 124; (with_reducible refine (HSO.out _ HT.out.n0).mono ?_); rintro e w3 ⟨rfl, ht3⟩; have HT3 := Lib.hid (HT.out.at0 ht3); clear ht3)
      go_ret
      unfold tickP
      refine ⟨o, A, c, HP.out, by rw [HON.out]; rfl, ?_⟩
      rw [HON.out]
      exact HT3.out.at1 ⟨Chg.refl _ _, ⟨HT3.out.now.2.1.1, rng_map HT3.out.now.2.1.2.1, fun x h1 h2 => HT3.out.now.2.1.2.2 x h1 (Or.inl h2)⟩, fun x hx => hx.elim (fun h => Or.inl (Or.inl h)) (fun h => Or.inl (Or.inr (Or.inl h)))⟩
    · intro k v kv w2 hk hg hkv ht2 hen
      have hkv : kv = (Value.int .i64) k := hkv
      subst hkv
      have HKL := Lib.hid (cur_mem hk hg)
      have HT2 := Lib.hid (HT.out.at2 ht2)
      have HKT := Lib.hid hk
      obtain ⟨hv1, hv2⟩ := HV.out _ HKL.out
      simp only [] at hv1 hv2
      have hcb2 : w2.cell? ⟨g, 0, none⟩ = some (.map (some b)) := HT2.out.now.2.1.1.cell 0
      have HIN := Lib.hid (show k ∈ mkeys (cur l todo) from mget_mem.1 (by rw [hg]; rfl))
      clear hk hg ht2
      by_cases h1 : v = 1
      · subst h1
        have HD := Lib.hid (cur_del HN.out HKT.out HKL.out)
        have HA := Lib.hid (told_add HN.out HKT.out HKL.out HP.out)
        go_wp2_with (first
          | ((at_builtin; refine wpList_app1 _ rfl (.tmp 18) (.tmp 20) 187 rfl 3 is ((.int .i64 0)) 1 8 Try.underlying187 his hzas hzbs hzcs rfl (by decide) (.slice A n c) n (o.map (Value.int .i64)) rfl _ _ _ rfl (by first | rfl | simp) HT2.out.n0 rfl (by simp [Value.oneCell']) (by simp only [maxLen]; omega) (by omega) ?_; intro g3 c3 w3 hc3 ht3; have HT3 := Lib.hid ht3; clear ht3); have HU3 := Lib.hid (HT2.out.at0 HT3.out); have hcb3 : w3.cell? ⟨g, 0, none⟩ = some (.map (some b)) := HU3.out.now.2.1.1.cell 0)
          | (at_delete; refine wpList_deleteR rfl _ _ 180 3 rfl Try.underlying180 HK.out rfl HU3.out.now.2.1.2.1 rfl rfl HIN.out (fun h => (mem_strike.1 h).2 rfl) ?_; intro w4 ht4; have HT4 := Lib.hid (HU3.out.at2 ht4); clear ht4))
        rw [HD.out] at HT4
        go_roundg (mstrike todo k).length
        case rel =>
          refine ⟨mstrike todo k, o ++ [k], some ⟨g3, 0, none⟩, n + 1, c3, rfl, by rw [List.length_append, HON.out]; rfl, rfl, HA.out, ?_⟩
          rw [List.map_append]
          exact HT4.out
        case measure => exact strike_lt HKT.out
      · have e1 : (v == 1) = false := by simpa using h1
        have HD := Lib.hid (cur_set HN.out HKT.out HKL.out h1)
        have HA := Lib.hid (told_same HN.out HKT.out HKL.out h1 HP.out)
        go_wp2_with (first
          | (at_mapUpdate; refine wpList_updateR rfl _ _ _ 180 rfl Try.underlying180 HK.out rfl HT2.out.now.2.1.2.1 rfl rfl HIN.out (v - 1) rfl ?_; intro w4 ht4; have HT4 := Lib.hid (HT2.out.at2 ht4); clear ht4))
        rw [HD.out] at HT4
        go_roundg (mstrike todo k).length
        case rel => exact ⟨mstrike todo k, o, A, n, c, rfl, HON.out, rfl, HA.out, HT4.out⟩
        case measure => exact strike_lt HKT.out
end Go.Proofs.Ytmpkjfengfgagaa.Ti
