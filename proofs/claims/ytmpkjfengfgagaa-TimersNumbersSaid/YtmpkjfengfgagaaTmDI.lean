/- Package timers: tables of ints: Armed, Clone. -/
import Derived.Test.YtmpkjfengfgagaaTmCI
import Derived.Shelf.SlIterI.Nil
import Derived.Shelf.SlIterI.Sorted
import Derived.Shelf.SlMaps.Clone
import Derived.Ground.GgzProg
import Derived.Ground.SlmcProg
namespace Go.Proofs.Ytmpkjfengfgagaa.Ti
open Go.Maps Go.Sort Go.Shelf
open Go.RowKit Go.Hp
attribute [local go_sem] min2_lean min_two max2_lean max_two
set_option linter.unusedSimpArgs false
set_option linter.unusedVariables false
set_option maxRecDepth 100000
shelf_lay_g SlLaysZI.n7 Ggz 7 at Try 126 as Try.keysI
shelf_lay_g SlLaysZI.n6 Ggz 6 at Try 125 as Try.sortedI
theorem Try.sortsI (m : Nat) : AnyZI.SortsIn Try.prog Try.sortedI_ren Fence.wide m :=
  ⟨fun blk off cap ss W hH hblk hsz => callsIn_wide.2 (Try.slices_Sort_int blk off cap ss W hH hblk hsz), fun p cap W => callsIn_wide.2 (Try.slices_Sort_int_none p cap W)⟩
def anyR : Value → Option (DataW Unit × List MemPlace) := fun _ => some (.nil, [])
theorem owns_map {b : Nat} {l : Tb} {w : World} (h : (Hp.Own.map intKey (Value.int .i64) b l).holds w) (hk : ∀ x ∈ l, (fun k : Int => (Lit.int .i64 k).wf = true) x.1) (hl : l.length ≤ 1000000) :
    ∃ D0 : DataW Unit, w.ownsMap Try.prog 3 anyR b l.length D0 ∧ (intKeys D0).Perm (mkeys l) ∧ Maps.size D0 = l.length := by
  obtain ⟨es, clock, hb, ho⟩ := h
  have hk1 : ∀ (i : Nat) (e : MapEntry) (x : Int × Int), es[i]? = some e → l[i]? = some x → e.key = (Value.int .i64) x.1 := fun i e x he hx => (ho.at_ i e x he hx).1
  have hkey : ∀ k : Int, (fun k : Int => (Lit.int .i64 k).wf = true) k → keyOf Try.prog 3 ((Value.int .i64) k) = some ((fun k : Int => Lit.int .i64 k) k) := fun k hk => by
    have hu : Try.prog.underlying 3 = _ := Try.underlying3
    simp only [keyOf, mapKey, hu, encStr]
    exact if_pos (by simpa using hk)
  have hks : es.toList.map (·.key) = (mkeys l).map ((Value.int .i64)) := by
    refine List.ext_getElem? fun i => ?_
    simp only [mkeys, List.getElem?_map, Array.getElem?_toList, List.map_map]
    rcases Nat.lt_or_ge i l.length with hi | hi
    · have he : i < es.size := by rw [ho.size]; exact hi
      rw [Array.getElem?_eq_getElem he, List.getElem?_eq_getElem hi]
      exact congrArg some (hk1 i _ _ (Array.getElem?_eq_getElem he) (List.getElem?_eq_getElem hi))
    · rw [Array.getElem?_eq_none (by rw [ho.size]; exact hi), List.getElem?_eq_none hi]
      rfl
  have hrd : ∀ (i : Nat) (e : MapEntry) (x : Int × Int), es[i]? = some e → l[i]? = some x → WideElems.rd (H := Unit) Try.prog 3 anyR e = some ((fun k : Int => Lit.int .i64 k) x.1, .nil) := fun i e x he hx => by
    have h1 := hkey x.1 (hk x (List.mem_of_getElem? hx))
    rw [← hk1 i e x he hx] at h1
    cases e
    exact WideElems.rd_mk (yv := (.nil, [])) h1 rfl
  have hrg : es.toList.map (WideElems.rg (H := Unit) Try.prog 3 anyR) = (mkeys l).map fun k => ((fun k : Int => Lit.int .i64 k) k, (.nil : DataW Unit)) := by
    refine List.ext_getElem? fun i => ?_
    simp only [mkeys, List.getElem?_map, Array.getElem?_toList, List.map_map]
    rcases Nat.lt_or_ge i l.length with hi | hi
    · have he : i < es.size := by rw [ho.size]; exact hi
      rw [Array.getElem?_eq_getElem he, List.getElem?_eq_getElem hi]
      exact congrArg some (WideElems.rg_of (hrd i _ _ (Array.getElem?_eq_getElem he) (List.getElem?_eq_getElem hi)))
    · rw [Array.getElem?_eq_none (by rw [ho.size]; exact hi), List.getElem?_eq_none hi]
      rfl
  have hF : WideElems.Fit (H := Unit) Try.prog 3 anyR es clock := by
    refine ⟨by rw [ho.size]; simp only [maxLen]; omega, ⟨ho.old, ho.born, ?_⟩, fun e he => ?_⟩
    · rw [hks]
      refine List.pairwise_map.2 (List.Pairwise.imp (fun {a b} hne h => hne ?_) ho.nd)
      simpa [encStr] using h
    · obtain ⟨i, hi⟩ := List.mem_iff_getElem?.1 he
      have hi' : es[i]? = some e := by simpa using hi
      have hl : i < l.length := by rw [← ho.size]; exact (Array.getElem?_eq_some_iff.1 hi').1
      exact ⟨_, hrd i e _ hi' (List.getElem?_eq_getElem hl)⟩
  refine ⟨_, ⟨es, clock, hb, hF, by rw [ho.size]; exact Nat.le_refl _, rfl⟩, ?_, ?_⟩
  · rw [hrg]
    show (List.map (fun p : Lit × DataW Unit => Go.intOf p.1) _).Perm _
    refine ((WideShapes.sorted_perm _).map _).trans ?_
    rw [List.map_map]
    have : (mkeys l).map ((fun p : Lit × DataW Unit => Go.intOf p.1) ∘ fun k => ((fun k : Int => Lit.int .i64 k) k, (.nil : DataW Unit))) = mkeys l := by
      refine (List.map_congr_left fun k _ => ?_).trans (List.map_id _)
      rfl
    rw [this]
  · rw [hrg]
    show List.length _ = _
    rw [(WideShapes.sorted_perm _).length_eq, List.length_map]
    simp [mkeys]
theorem srt_perm {o p : List Int} (h : o.Perm p) : srtK o = srtK p := by
  unfold srtK
  have tr : ∀ a b c : Int, (fun x y : Int => decide (x ≤ y)) a b = true → (fun x y : Int => decide (x ≤ y)) b c = true → (fun x y : Int => decide (x ≤ y)) a c = true := fun a b c h1 h2 => by simp only [decide_eq_true_eq] at *; exact Int.le_trans h1 h2
  have to : ∀ a b : Int, ((fun x y : Int => decide (x ≤ y)) a b || (fun x y : Int => decide (x ≤ y)) b a) = true := fun a b => by simp only [Bool.or_eq_true, decide_eq_true_eq]; exact Int.le_total a b
  refine List.Perm.eq_of_pairwise (le := fun a b => (fun x y : Int => decide (x ≤ y)) a b = true) (fun a b _ _ h1 h2 => ?_) (List.pairwise_mergeSort tr to o) (List.pairwise_mergeSort tr to p) (((List.mergeSort_perm o _).trans h).trans (List.mergeSort_perm p _).symm)
  simp only [decide_eq_true_eq] at h1 h2
  exact Int.le_antisymm h1 h2
set_option maxHeartbeats 1000000 in
theorem armed_any (g b : Nat) (l : Tb) (w : World) (h : (tbO g b l).holds w) (hk : ∀ x ∈ l, (fun k : Int => (Lit.int .i64 k).wf = true) x.1) (hl : l.length ≤ 1000000) :
    Calls Try.prog 107 #[.pointer (some ⟨g, 0, none⟩)] w fun e w' => ∃ A c, e = .returned (.slice A l.length c) ∧ Turns w w' (tbO g b l) (Hp.Own.both (Hp.Own.row 3 1 (.slice A l.length c) l.length ((srtK (mkeys l)).map (Value.int .i64))) (tbO g b l)) := by
  have hc := tbO_cell h
  obtain ⟨D0, hown, hperm, hsz⟩ := owns_map (tbO_map h) hk hl
  refine (callsIn_wide (n := 6)).1 ?_
  have hbl := hown.lt
  have hseq : SeqGives Fence.wide 2 Try.prog 149 #[.pointer (some ⟨w.heap.size, 0, none⟩)] encZ (fun ss => ss.Perm (intKeys D0)) (Maps.size D0) (w.alloc (.cells #[.map (some b)] 180)) :=
    AnyZI.keys_gives (ρ := Try.keysI_ren) { Try.keysI with } Fence.wide _ trivial rfl (by omega) w.heap.size b l.length D0 _ (by simp) (by simp) (by
      obtain ⟨es, clock, hb, Ft, hs, hD⟩ := hown
      exact ⟨es, clock, (Below.heap_alloc _ _ b hbl).trans hb, Ft, hs, hD⟩)
  have cK : ∀ mb W, CallsIn Fence.wide 5 Try.prog 126 #[.map mb] W fun e w' => e = .returned (.func (.func 149) #[] #[.pointer (some ⟨W.heap.size, 0, none⟩)]) ∧ w' = W.alloc (.cells #[.map mb] 180) := fun mb W => AnyZI.keys_in Try.keysI Fence.wide 5 trivial rfl mb W
  have cS := AnyZI.sorted_in Try.sortedI Fence.wide 5 trivial trivial trivial trivial rfl (by omega) (Try.sortsI _) (enters_of Try.func124 (by kernel_rfl) rfl) 149 #[.pointer (some ⟨w.heap.size, 0, none⟩)] trivial (enters_of Try.func149 (by kernel_rfl) rfl) _ _ (by rw [hsz]; simp only [maxLen]; omega) (by rw [hsz]; omega) _ hseq
  change CallsIn _ _ Try.prog 125 _ _ _ at cS
  have hfK : Fence.wide.fn 126 := trivial
  have hfS : Fence.wide.fn 125 := trivial
  refine callsIn_of_wp Try.func107 rfl trivial ?_ rfl
  simp only [Try.ntmps107, List.size_toArray, List.length_cons, List.length_nil, Nat.reduceAdd, Nat.reduceSub, Array.replicate_succ, Array.replicate_zero, List.push_toArray, List.append_toArray, List.nil_append, List.cons_append]
  gi_wp2_with (first
    | (gi_at_call 126; refine (cK _ _).mono ?_; rintro e w' ⟨rfl, rfl⟩)
    | (gi_at_call 125; refine cS.mono ?_; rintro e w' ⟨v, ss, rfl, hS, hrow, hnil, hb⟩))
  go_ret
  have hB : Below w.heap.size w w' := ((Below.refl _ w).alloc (Nat.le_refl _) _).trans (hb.mono (by simp))
  have hfresh : ∀ k, v.ownBlock = some k → w.heap.size ≤ k := fun k hk => Nat.le_trans (by simp) (hrow.lt k hk).1
  have hp := hS.trans hperm
  have hn : ss.length = l.length := by rw [hp.length_eq]; simp [mkeys]
  have hr : w'.ownsRow 0 3 1 v l.length ((srtK (mkeys l)).map (Value.int .i64)) := by
    have h1 := ownsRow_base_a hrow (Nat.zero_le _)
    rw [hn] at h1
    rw [← srt_perm hp]
    exact h1
  obtain ⟨A, c, rfl⟩ := row_slice hr
  have hC := Chg.of_below hB (fun _ => False)
  refine ⟨A, c, rfl, Chg.of_below hB _, ⟨hr, Hp.Own.chg h hC (fun _ _ h => h), fun k h1 h2 => ?_⟩, fun k hk => hk.elim (fun h1 => Or.inr (hfresh k h1)) Or.inl⟩
  have := hfresh k h1
  have := Own.lt _ h k h2
  omega
shelf_lay_g SlLaysW.n5 Slmc 5 at Try 123 as Try.mcloneI
theorem clone_any (g b : Nat) (l : Tb) (w : World) (h : (tbO g b l).holds w) :
    Calls Try.prog 102 #[.pointer (some ⟨g, 0, none⟩)] w fun e w' => ∃ g' b', e = .returned (.pointer (some ⟨g', 0, none⟩)) ∧ Turns w w' (tbO g b l) (Hp.Own.both (tbO g' b' l) (tbO g b l)) := by
  have hc := tbO_cell h
  obtain ⟨es, clock, hb, ho⟩ := tbO_map h
  have cM : Calls Try.prog 123 #[.map (some b)] w fun e w' => e = .returned (.map (some w.heap.size)) ∧ w' = w.alloc (.map es clock) := AnyW.maps_Clone Try.mcloneI b es clock w hb
  have hT : Turns w (w.alloc (.map es clock)) Hp.Own.emp (Hp.Own.map intKey (Value.int .i64) w.heap.size l) :=
    ⟨(Chg.refl _ _).alloc _, ⟨es, clock, by show (w.heap.push _)[w.heap.size]? = _; simp, ho⟩, fun b hb => by cases hb; exact Or.inr (Nat.le_refl _)⟩
  have HT := Lib.hid (Turns.add h (hT.push #[.map (some w.heap.size)] 182))
  clear hT ho hb
  go_enter Try.func102, Try.ntmps102
  go_wp2_with (go_at_call 123; (with_reducible refine cM.mono ?_); rintro e w1 ⟨rfl, rfl⟩)
  go_ret
  have ht := HT.out
  rw [show (w.alloc (.map es clock)).heap.size = w.heap.size + 1 by simp] at ht
  exact ⟨_, _, rfl, ht⟩
end Go.Proofs.Ytmpkjfengfgagaa.Ti
