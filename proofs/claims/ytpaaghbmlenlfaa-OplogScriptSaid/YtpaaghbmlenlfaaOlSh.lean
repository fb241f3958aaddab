/- Newest: the greatest number of a client that stands in a log. -/
import Derived.Test.YtpaaghbmlenlfaaOlSf
namespace Go.Proofs.Ytpaaghbmlenlfaa.Ol
open Go.Shelf
open Go.Hp.M7
open Go.RowKit Go.Hp
attribute [local go_sem] min2_lean min_two max2_lean max_two
set_option linter.unusedSimpArgs false
set_option linter.unusedVariables false
set_option maxRecDepth 100000
attribute [local go_sem] Oper.semAt_some run_func_eq
def nwS (c : Int) (m : Int) (e : En) : Int := if e.c = c then max m e.n else m
def nwL (c : Int) (l : List En) : Int := l.foldl (nwS c) 0
theorem nwL_next (c : Int) (l : List En) (e : En) : nwL c (l ++ [e]) = nwS c (nwL c l) e := by simp [nwL]
theorem upA_snd (A : Ab) : (upA A A.2.length).map (·.2) = A.2 := by
  apply List.ext_getElem?
  intro i
  unfold upA
  rw [List.map_map, List.getElem?_map]
  by_cases h : i < A.2.length
  · rw [List.getElem?_range h, List.getElem?_eq_getElem h]
    simp [h]
  · rw [List.getElem?_eq_none (by simpa using h), List.getElem?_eq_none (by omega)]
    rfl
theorem map_snoc (pre : List (Int × En)) (x : Int × En) : (pre ++ [x]).map (·.2) = pre.map (·.2) ++ [x.2] := by simp
abbrev bxn (b3 b5 bC : Nat) (p : Value) (c n : Int) : Hp.Own := Hp.Own.both (Hp.Own.blk b5 #[.int .i64 n] 3) (Hp.Own.both (Hp.Own.blk bC #[p] 44) (Hp.Own.both (Hp.Own.blk b3 #[.int .i64 c] 3) Hp.Own.emp))
theorem bxn_celled {b3 b5 bC : Nat} {p : Value} {c n : Int} : Celled (bxn b3 b5 bC p c n) := celled_both (celled_blk _ _ _) (celled_both (celled_blk _ _ _) (celled_both (celled_blk _ _ _) celled_emp))
theorem bxn_see {b3 b5 bC : Nat} {p : Value} {c n : Int} {W : World} (h : (bxn b3 b5 bC p c n).holds W) : W.cell? ⟨b5, 0, none⟩ = some (.int .i64 n) ∧ W.frozen? ⟨b5, 0, none⟩ = false ∧ W.cell? ⟨bC, 0, none⟩ = some p ∧ W.cell? ⟨b3, 0, none⟩ = some (.int .i64 c) :=
  ⟨h.1.cell 0, h.1.frozen 0, h.2.1.1.cell 0, h.2.1.2.1.1.cell 0⟩
theorem bxn_pts {b3 b5 bC : Nat} {p : Value} {c n : Int} {W : World} (h : (bxn b3 b5 bC p c n).holds W) (x : Nat) : ¬ pts W ⟨b5, 0, none⟩ x := by
  rintro ⟨ad, k, cc, e, _⟩
  rw [(bxn_see h).1] at e
  cases e
theorem bxn_kept {n b3 b5 bC : Nat} {p : Value} {c x y : Int} {W W' : World} (h : (bxn b3 b5 bC p c x).holds W) (t : Turns W W' (bxn b3 b5 bC p c x) (bxn b3 b5 bC p c y)) (hB : b3 < n ∧ b5 < n ∧ bC < n) : KeepsFrom n W W' ∧ Kpt n ⟨b5, 0, none⟩ W W' := by
  refine ⟨keeps_turns bxn_celled h t, t.chg.size, fun z cs T hn hk hp => hk.chg t.chg (fun hf => ?_), fun z hz => (bxn_pts t.now z hz).elim⟩
  rcases hf with hf | hf | hf | hf
  · have hf : z = b5 := hf; omega
  · have hf : z = bC := hf; omega
  · have hf : z = b3 := hf; omega
  · exact hf
set_option maxHeartbeats 4000000 in
theorem pNewest (g pb m : Nat) (A : Ab) (c : Int) (w : World) (h : (pO g pb m A).holds w) :
    Calls Try.prog 56 #[.pointer (some ⟨g, 0, none⟩), .int .i64 c] w fun e w' => e = .returned (.int .i64 (nwL c A.2)) ∧ Chg (fun _ => False) w w' := by
  have HP := Lib.hid h
  have HT0 := Lib.hid ((((turn_emp w).push #[.int .i64 c] 3).push #[.int .i64 0] 3).push #[.pointer (some ⟨g, 0, none⟩)] 44).flip
  simp only [World.size_alloc] at HT0
  clear h
  refine (callsIn_wide (n := 5)).1 (callsIn_of_wp_marks Try.func56 rfl trivial ?_ rfl)
  simp only [Try.ntmps56, List.size_toArray, List.length_cons, List.length_nil, Nat.reduceAdd, Nat.reduceSub, Array.replicate_succ, Array.replicate_zero, List.push_toArray, List.append_toArray, List.nil_append, List.cons_append]
  refine wpIn_wide.2 ?_
  go_wp2_with (first
    | (go_at_call 29; (with_reducible refine (all_any g _).mono ?_); rintro r w3 ⟨rfl, rfl⟩))
  obtain ⟨W0, hW0⟩ : ∃ W, W = ((w.alloc (.cells #[.int .i64 c] 3)).alloc (.cells #[.int .i64 0] 3)).alloc (.cells #[.pointer (some ⟨g, 0, none⟩)] 44) := ⟨_, rfl⟩
  rw [← hW0] at HT0 ⊢
  have HS0 : Hid (W0.heap.size = w.heap.size + 3) := Lib.hid (by rw [hW0]; simp)
  clear hW0
  obtain ⟨bC, hbC⟩ : ∃ b, b = w.heap.size + 1 + 1 := ⟨_, rfl⟩
  rw [← hbC] at HT0 ⊢
  obtain ⟨b5, hb5⟩ : ∃ b, b = w.heap.size + 1 := ⟨_, rfl⟩
  rw [← hb5] at HT0 ⊢
  obtain ⟨b3, hb3⟩ : ∃ b, b = w.heap.size := ⟨_, rfl⟩
  rw [← hb3] at HT0 ⊢
  have HBS : Hid (w.heap.size ≤ W0.heap.size ∧ b3 < W0.heap.size ∧ b5 < W0.heap.size ∧ bC < W0.heap.size) := Lib.hid (by
    have h := HS0.out
    refine ⟨by omega, by omega, by omega, by omega⟩)
  obtain ⟨hw0, hb30, hb50, hbC0⟩ := HBS.out
  clear hbC hb5 hb3 HS0
  have HP0 := Lib.hid (Own.chg HP.out HT0.out.chg (fun _ _ h => h))
  generalize hact : Act.mk _ _ = act
  have HACT := Lib.hid hact
  refine (wpIn_wide (n := 5)).1 ?_
  refine wpIn_rangeFunc_ownH rfl (by omega) (gf := 48) (lb := #[.pointer (some ⟨bC, 0, none⟩)]) (by rw [← hact]; rfl) trivial (enters_of Try.func48 (by kernel_rfl) rfl)
    (all_seq g pb m A bC W0.heap.size 4 ⟨b5, 0, none⟩ W0 (Nat.le_refl _) hb50 (fun b hb => (bxn_pts HT0.out.now b hb).elim) hbC0 (bxn_see HT0.out.now).2.2.1 HP0.out (by omega)) kpt_t (kpt_b hb50) (Below.refl _ _) (fun _ => rfl)
    (fun pre W => W0.heap.size ≤ W.heap.size ∧ Turns w W Hp.Own.emp (bxn b3 b5 bC (.pointer (some ⟨g, 0, none⟩)) c (nwL c (pre.map (·.2)))))
    (fun _ _ _ => False)
    ?hI ?hIx ?h0
    (fun x a' W => ∃ Bx, Vb W0.heap.size b5 W Bx x.2.cells.toArray 51 ∧ b5 < W.heap.size ∧ a' = { tmps := ((act.tmps.setIfInBounds 10 (.int .i64 x.1)).setIfInBounds 11 (.agg x.2.cells.toArray)).setIfInBounds 7 (.pointer (some ⟨Bx, 0, none⟩)), defers := [] })
    ?hAx ?assign ?body ?done ?stop
  case hI =>
    intro pre X Y row hs hg hr
    obtain ⟨h2, h3⟩ := hs
    exact ⟨Nat.le_trans h2 hg.size, turns_keep bxn_celled hw0 h3 hg hr⟩
  case hIx => exact fun c => ownFrom_pure _ _
  case h0 => exact ⟨Nat.le_refl _, HT0.out⟩
  case hAx =>
    intro x a' s X Y row hs hg hr
    obtain ⟨Bx, h1, h2, h3⟩ := hs
    exact ⟨Bx, h1.keep hb50 h2 hg hr, Nat.lt_of_lt_of_le h2 hg.size, h3⟩
  case assign =>
    rintro l pre ⟨op', ec, en, kk, nm, tx, nu, mo⟩ W K ⟨hsz, ht⟩ hK
    have hsub := HACT.out
    subst hsub
    have hbW : b5 < W.heap.size := Nat.lt_of_lt_of_le hb50 hsz
    have HTW := Lib.hid ht
    clear ht hact HACT
    dsimp only [encE, En.cells]
    gi_wp2_with fail
    exact hK _ _ ((KeepsOthers.alloc _ _).from _) (Kpt.of_chg ((Chg.refl _ _).alloc _) hbW) ⟨Nat.le_trans hsz (by simp), HTW.out.alloc _⟩
      ⟨W.heap.size, ⟨hsz, bxn_pts (HTW.out.alloc _).now _, Blk.new _ _ _⟩, Nat.lt_of_lt_of_le hbW (by simp), rfl⟩
  case body =>
    rintro l pre ⟨op', ec, en, ek, em, et, eu, eo⟩ a' W hl ⟨rl, hrl⟩ ⟨hsz, ht⟩ ⟨Bx, hvb, hbW, rfl⟩ hlt
    have hsub := HACT.out
    subst hsub
    obtain ⟨z5, z5f, -, z3⟩ := bxn_see ht.now
    obtain ⟨nn, hnn⟩ : ∃ n, nwL c (pre.map (·.2)) = n := ⟨_, rfl⟩
    rw [hnn] at ht z5
    have HT := Lib.hid ht
    have HNN := Lib.hid hnn
    have q0 : W.cell? ⟨Bx, 0, none⟩ = some (.int .i64 ec) := hvb.2.2.cell 0
    have q1 : W.cell? ⟨Bx, 1, none⟩ = some (.int .i64 en) := hvb.2.2.cell 1
    clear ht hvb hnn hact HACT hrl
    simp only [List.setIfInBounds_toArray, List.set_cons_zero, List.set_cons_succ, En.cells]
    by_cases c1 : ec = c
    · have d1 : (ec == c) = true := by simpa using c1
      have HC1 := Lib.hid c1
      clear c1
      gi_wp2_with fail
      have t9 := HT.out.trans ((Turns.refl HT.out.now).put0 0 (.int .i64 (max nn en)))
      obtain ⟨k1, k2⟩ := bxn_kept HT.out.now ((Turns.refl HT.out.now).put0 0 (.int .i64 (max nn en))) HBS.out.2
      refine ⟨k1, k2, Nat.le_trans hsz (by simp [World.setCell]), ?_⟩
      rw [map_snoc, nwL_next, HNN.out, nwS, if_pos HC1.out]
      exact t9
    · have d1 : (ec == c) = false := by simpa using c1
      have HC1 := Lib.hid c1
      clear c1
      gi_wp2_with fail
      obtain ⟨k1, k2⟩ := bxn_kept HT.out.now (Turns.refl HT.out.now) HBS.out.2
      refine ⟨k1, k2, hsz, ?_⟩
      rw [map_snoc, nwL_next, HNN.out, nwS, if_neg HC1.out]
      exact HT.out
  case done =>
    rintro D xs W hD hS ⟨hsz, ht⟩ hK
    have hsub := HACT.out
    subst hsub
    subst hS
    rw [upA_snd] at ht
    have z5 := (bxn_see ht.now).1
    have HTW := Lib.hid ht
    have HKD := Lib.hid hK
    clear ht hK hact HACT
    dsimp only []
    go_wp2_with fail
    refine ⟨by simp, .inl ⟨_, _, rfl, run_takeDeferred HKD.out, ?_⟩⟩
    refine ⟨.int .i64 (nwL c A.2), by simp [results, Try.results56, go_sem], rfl, ?_⟩
    exact (turns_keep celled_emp hw0 (HTW.out.emptied) (grownBy_putObj' W D (.deferred none)) (fun r e => by cases e; exact ⟨hD, _, HKD.out, rfl⟩)).chg
  case stop => exact fun D c pre W _ hp hx => hx.elim
end Go.Proofs.Ytpaaghbmlenlfaa.Ol
