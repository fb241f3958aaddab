/- Tables whose names are floats: the keys of an empty map. -/
import Derived.Test.YtmpkjfengfgagaaTmNg
import Derived.RangeFuncNested
import Derived.RangeFuncBound
import Derived.RangeFuncCalls
import Derived.RangeFuncLeaves
import Derived.RangeFuncFrom
import Derived.Shelf.Abstract
import Derived.Shelf.RegionOpen
import Derived.OwnWalkIn
import Derived.TacticsInMore
namespace Go.Proofs.Ytmpkjfengfgagaa.Tn
open Go.Shelf
open Go.RowKit Go.Hp
attribute [local go_sem] min2_lean min_two max2_lean max_two
set_option linter.unusedSimpArgs false
set_option linter.unusedVariables false
set_option maxRecDepth 100000
set_option linter.unusedSectionVars false
section
variable {P : Program} {κ : Type} [DecidableEq κ] {R : κ → Value → Prop} {w : World} {b : Nat} {ops : Array Oper} {rest : List Oper} {o : Oper} {a : Act} {Q : Exit → Act → World → Prop}
/-- A range over an empty map: the world behind it is told exactly. -/
theorem wpList_rangeE (hg : o.guard = none) (m : Operand) (t : TypeId) (hop : o.op = Op.range t m) {e kt : TypeId} (ht : P.underlying t = some (.map kt e)) (hm : a.eval m = .map (some b)) (h : (Hp.Own.map R (Value.int .i64) b []).holds w)
    (hK : ∀ clock, (Hp.Own.rng R (Value.int .i64) b w.heap.size [] []).holds (w.alloc (.mapIter (some b) clock #[] clock)) → wpList P ops Q rest (a.put o.dst (.pointer (some ⟨w.heap.size, 0, none⟩))) (w.alloc (.mapIter (some b) clock #[] clock))) : wpList P ops Q (o :: rest) a w := by
  refine wpList_plain hg fun K' hK' => ?_
  obtain ⟨es, clock, hb, hmo⟩ := h
  have hlt := (Array.getElem?_eq_some_iff.1 hb).1
  have hrun := run_range_map (P := P) w t kt e b es clock ht hb
  unfold Oper.wp
  simp [execOp, hop, hm, hrun, Result.andThen]
  refine hK' _ _ (hK clock ⟨es, clock, clock, #[], clock, (Below.heap_alloc w _ b hlt).trans hb, hmo, ?_, Nat.le_refl _, Nat.le_refl _, hmo.old, fun i e x _ hx => by simp at hx, fun k hk => by simp at hk⟩)
  show (w.heap.push _)[w.heap.size]? = _
  simp
end
theorem keys_nil {F : Nat → Prop} (y : Value) (bx b : Nat) (w : World) (hc : w.cell? ⟨bx, 0, none⟩ = some (.map (some b))) (h : (Hp.Own.map (RF F) (Value.int .i64) b []).holds w) :
    Calls Try.prog 117 #[y, .pointer (some ⟨bx, 0, none⟩)] w fun e w' => e = .returned (.tuple #[]) ∧ ∃ clock, w' = w.alloc (.mapIter (some b) clock #[] clock) := by
  have H0 := Lib.hid h
  clear h
  go_enter Try.func117, Try.ntmps117
  go_wp2_with (at_range; refine wpList_rangeE rfl _ 163 rfl Try.underlying163 rfl H0.out ?_; intro clock hr; have HR := Lib.hid hr; clear hr)
  obtain ⟨w1, hw1⟩ : ∃ W, W = w.alloc (.mapIter (some b) clock #[] clock) := ⟨_, rfl⟩
  rw [← hw1] at HR ⊢
  have HW := Lib.hid hw1
  clear hw1
  go_frame
  generalize w.heap.size = r at *
  go_loopw [3] (fun x3 wr => wr = w1) (fun _ _ => 0)
  case atStart => exact rfl
  case round =>
    obtain rfl := hrel
    go_wp2_with (at_next; refine wpList_nextM rfl _ rfl rfl HR.out ?_ ?_)
    exact bodyPost_end (results_none rfl _ _ _) rfl ⟨rfl, clock, HW.out⟩
/-- What a range over the keys of an empty map gives: nothing. -/
theorem keys_seq {F : Nat → Prop} (n : Nat) (bx b : Nat) (w : World) (hbx : bx < w.heap.size) (hb : b < w.heap.size) (hc : w.cell? ⟨bx, 0, none⟩ = some (.map (some b))) (h : (Hp.Own.map (RF F) (Value.int .i64) b []).holds w) :
    SeqStopsK Fence.wide n Try.prog 117 #[.pointer (some ⟨bx, 0, none⟩)] (fun x : Value => #[x]) (Below w.heap.size) (fun xs => xs = []) (fun _ => False) 0 w := by
  intro l J Jx W hW hJ hJx hY h0
  refine callsIn_wide.2 ?_
  have hc' : W.cell? ⟨bx, 0, none⟩ = some (.map (some b)) := (hW.cell (p := ⟨bx, 0, none⟩) hbx).trans hc
  have h' : (Hp.Own.map (RF F) (Value.int .i64) b []).holds W := Hp.Own.chg h (Chg.of_below hW (fun _ => False)) (fun _ _ h => h)
  refine (keys_nil _ bx b W hc' h').mono ?_
  rintro e w' ⟨rfl, clock, rfl⟩
  refine ⟨⟨_, rfl⟩, Or.inl ⟨[], rfl, ?_⟩⟩
  exact hJ [] W _ none h0 (World.grownBy_alloc _ _ _) (fun r hr => by cases hr)
attribute [local go_sem] Oper.semAt_some
set_option maxHeartbeats 1000000 in
theorem append_nil {F : Nat → Prop} (bx b : Nat) (w : World) (hbx : bx < w.heap.size) (hb : b < w.heap.size) (hc : w.cell? ⟨bx, 0, none⟩ = some (.map (some b))) (h : (Hp.Own.map (RF F) (Value.int .i64) b []).holds w) :
    CallsIn Fence.wide 5 Try.prog 142 #[.slice none 0 0, .func (.func 117) #[] #[.pointer (some ⟨bx, 0, none⟩)]] w fun e w' => e = .returned (.slice none 0 0) ∧ Below w.heap.size w w' := by
  have hseq := keys_seq 4 bx b w hbx hb hc h
  have hfK : Fence.wide.fn 117 := trivial
  refine callsIn_of_wp_marks Try.func142 rfl trivial ?_ rfl
  simp only [Try.ntmps142, List.size_toArray, List.length_cons, List.length_nil, Nat.reduceAdd, Nat.reduceSub, Array.replicate_succ, Array.replicate_zero, List.push_toArray, List.append_toArray, List.nil_append, List.cons_append]
  gi_wp2
  refine wpIn_rangeFunc_ownF rfl (by omega) (gf := 117) (lb := #[.pointer (some ⟨bx, 0, none⟩)]) rfl hfK (enters_of Try.func117 (by kernel_rfl) rfl) hseq belowK_t (belowK_b (by simp)) ((Below.refl _ w).alloc (Nat.le_refl _) _) (fun _ => rfl)
    (fun _ W => W.cell? ⟨w.heap.size, 0, none⟩ = some (.slice none 0 0) ∧ Below w.heap.size w W) (fun _ _ _ => False)
    (OwnFrom.and (Own.from (fun s A B row hs hg hr => cell_kept hs hg hr) _) (ownFrom_below (Nat.le_refl _) (by simp))) (fun _ _ _ _ _ hs _ _ => hs) ⟨by simp [go_sem], (Below.refl _ w).alloc (Nat.le_refl _) _⟩
    (fun x => { tmps := #[.slice none 0 0, .func (.func 117) #[] #[.pointer (some ⟨bx, 0, none⟩)], .pointer (some ⟨w.heap.size, 0, none⟩), undef, .slice none 0 0, x, .func (.func 117) #[] #[.pointer (some ⟨bx, 0, none⟩)], x, undef, undef, undef, undef, undef], defers := [] }) ?assign ?body ?done ?stop
  case assign =>
    intro l x W K hK
    gi_wp2
    exact hK
  case body =>
    intro l pre x W _ hl
    exact absurd hl (Nat.not_lt_zero _)
  case stop =>
    intro D c pre W _ hs
    exact hs.elim
  case done =>
    rintro D xs W hD rfl ⟨hcW, hB⟩ hK
    gi_wp2
    refine ⟨by simp, .inl ⟨_, _, rfl, run_takeDeferred hK, ?_⟩⟩
    exact ⟨.slice none 0 0, by simp [results, Try.results142, go_sem], rfl, hB.trans (belowK_b (w := w) (Nat.le_refl _) W D _ _ (by simp at hD; omega) hK rfl rfl)⟩
theorem collect_nil {F : Nat → Prop} (bx b : Nat) (w : World) (hbx : bx < w.heap.size) (hb : b < w.heap.size) (hc : w.cell? ⟨bx, 0, none⟩ = some (.map (some b))) (h : (Hp.Own.map (RF F) (Value.int .i64) b []).holds w) :
    Calls Try.prog 116 #[.func (.func 117) #[] #[.pointer (some ⟨bx, 0, none⟩)]] w fun e w' => e = .returned (.slice none 0 0) ∧ Below w.heap.size w w' := by
  have HA := callsIn_wide.1 (append_nil bx b w hbx hb hc h)
  go_enter Try.func116, Try.ntmps116
  go_wp2_with (first
    | (go_at_call 142; refine HA.mono ?_; rintro r w1 ⟨rfl, hB⟩))
  go_ret
  exact ⟨rfl, hB⟩
theorem sorted_nil {F : Nat → Prop} (bx b : Nat) (w : World) (hbx : bx < w.heap.size) (hb : b < w.heap.size) (hc : w.cell? ⟨bx, 0, none⟩ = some (.map (some b))) (h : (Hp.Own.map (RF F) (Value.int .i64) b []).holds w) :
    Calls Try.prog 88 #[.func (.func 117) #[] #[.pointer (some ⟨bx, 0, none⟩)]] w fun e w' => e = .returned (.slice none 0 0) ∧ Below w.heap.size w w' := by
  have HA := collect_nil bx b w hbx hb hc h
  go_enter Try.func88, Try.ntmps88
  go_wp2_with (first
    | (go_at_call 116; refine HA.mono ?_; rintro r w1 ⟨rfl, hB⟩)
    | (go_at_call 108; (with_reducible refine (sort_nil _).mono ?_); rintro r w2 ⟨rfl, rfl⟩))
  go_ret
  exact ⟨rfl, hB⟩
theorem keys_f (b : Nat) (w : World) : Calls Try.prog 89 #[.map (some b)] w fun e w' => e = .returned (.func (.func 117) #[] #[.pointer (some ⟨w.heap.size, 0, none⟩)]) ∧ w' = w.alloc (.cells #[.map (some b)] 163) := by
  go_enter Try.func89, Try.ntmps89
  go_wp2_with fail
  go_ret
  exact ⟨rfl, rfl⟩
theorem armed_n {F : Nat → Prop} (g b : Nat) (w : World) (h : (tuO F g b []).holds w) :
    Calls Try.prog 45 #[.pointer (some ⟨g, 0, none⟩)] w fun e w' => e = .returned (.slice none 0 0) ∧ Below w.heap.size w w' := by
  have hc := tuO_cell h
  have hm := tuO_map h
  have hbl : b < w.heap.size := Own.lt _ hm b rfl
  have HS := Lib.hid (sorted_nil (F := F) w.heap.size b (w.alloc (.cells #[.map (some b)] 163)) (by simp) (by simp; omega) (by simp [go_sem]) ((Turns.refl hm).alloc _).now)
  clear h hm
  go_enter Try.func45, Try.ntmps45
  go_wp2_with (first
    | (go_at_call 89; (with_reducible refine (keys_f _ _).mono ?_); rintro r w1 ⟨rfl, rfl⟩)
    | (go_at_call 88; refine HS.out.mono ?_; rintro r w2 ⟨rfl, hB⟩))
  go_ret
  exact ⟨rfl, ((Below.refl _ w).alloc (Nat.le_refl _) _).trans (hB.mono (by simp))⟩
end Go.Proofs.Ytmpkjfengfgagaa.Tn
