/- From: what a log gives from an op on. -/
import Derived.Test.YtpaaghbmlenlfaaOlSf
namespace Go.Proofs.Ytpaaghbmlenlfaa.Ol
open Go.Shelf
open Go.Hp.M7
open Go.RowKit Go.Hp
attribute [local go_sem] min2_lean min_two max2_lean max_two
set_option linter.unusedSimpArgs false
set_option linter.unusedVariables false
set_option maxRecDepth 100000
attribute [local go_sem] Oper.semAt_some run_func_eq
abbrev bxs (b3 b4 b5 bC : Nat) (p : Value) (x4 x5 : Int) : Hp.Own := Hp.Own.both (Hp.Own.blk bC #[p] 44) (Hp.Own.both (Hp.Own.blk b5 #[.int .i64 x5] 3) (Hp.Own.both (Hp.Own.blk b4 #[.int .i64 x4] 3) (Hp.Own.both (Hp.Own.blk b3 #[p] 44) Hp.Own.emp)))
theorem bxs_celled {b3 b4 b5 bC : Nat} {p : Value} {x4 x5 : Int} : Celled (bxs b3 b4 b5 bC p x4 x5) := celled_both (celled_blk _ _ _) (celled_both (celled_blk _ _ _) (celled_both (celled_blk _ _ _) (celled_both (celled_blk _ _ _) celled_emp)))
theorem bxs_see {b7 b3 b4 b5 bC m : Nat} {V p : Value} {x4 x5 : Int} {zs : List En} {W : World} (h : (oB b7 V m zs (bxs b3 b4 b5 bC p x4 x5)).holds W) :
    W.cell? ⟨b7, 0, none⟩ = some V ∧ W.frozen? ⟨b7, 0, none⟩ = false ∧ W.cell? ⟨b3, 0, none⟩ = some p ∧ W.cell? ⟨b4, 0, none⟩ = some (.int .i64 x4) ∧ W.cell? ⟨b5, 0, none⟩ = some (.int .i64 x5) ∧ W.cell? ⟨bC, 0, none⟩ = some p :=
  ⟨h.1.cell 0, h.1.frozen 0, h.2.1.2.1.2.1.2.1.2.1.1.cell 0, h.2.1.2.1.2.1.2.1.1.cell 0, h.2.1.2.1.2.1.1.cell 0, h.2.1.2.1.1.cell 0⟩
def hasA (A : Ab) (op : Int) : Prop := A.1 < op ∧ op ≤ A.1 + A.2.length
instance (A : Ab) (op : Int) : Decidable (hasA A op) := by unfold hasA; exact inferInstance
theorem has_ab (g pb m : Nat) (A : Ab) (op : Int) (w : World) (h : (pO g pb m A).holds w) : Calls Try.prog 46 #[.pointer (some ⟨g, 0, none⟩), .int .i64 op] w fun e w' => e = .returned (.bool (decide (hasA A op))) ∧ Chg (fun _ => False) w w' := by
  have hok := pO_ok h
  obtain ⟨s, h1, h2⟩ := h
  obtain ⟨c0, -, -, c3⟩ := LogS.cells h2
  have l1 := hok.len
  have l2 := hok.m64
  have l3 := hok.b0
  have l4 := hok.b1
  rw [h1.g] at c0 c3
  rw [h1.b] at c0
  rw [h1.many] at c3
  refine (has_any g A.1 A.2.length op w c0 c3 l3 (by omega) (by omega) (by omega)).mono ?_
  rintro r w' ⟨rfl, n, rfl⟩
  refine ⟨?_, (Chg.refl _ _).drewN n⟩
  by_cases a : A.1 < op <;> by_cases b : op ≤ A.1 + A.2.length <;> simp [hasA, a, b]
set_option maxHeartbeats 4000000 in
theorem pFrom (g pb m : Nat) (A : Ab) (op most : Int) (w : World) (h : (pO g pb m A).holds w) :
    Calls Try.prog 51 #[.pointer (some ⟨g, 0, none⟩), .int .i64 op, .int .i64 most] w fun e w' => ∃ V n, n = (frL (hasA A op) op most (upA A A.2.length)).length ∧ e = .returned V ∧ Turns w w' Hp.Own.emp (Hp.Own.row 51 7 V n (flat (frL (hasA A op) op most (upA A A.2.length)))) := by
  obtain ⟨ij, hij, hzaj, hzbj, hzcj⟩ := info_parts Try.info51
  have hok := pO_ok h
  have HP := Lib.hid h
  have hlen : A.2.length ≤ 64 := by have := hok.len; have := hok.m64; omega
  obtain ⟨N, hN⟩ : ∃ N, A.2.length = N := ⟨_, rfl⟩
  have HN := Lib.hid hN
  have HT0 := Lib.hid (((((((((((turn_emp w).push #[.pointer (some ⟨g, 0, none⟩)] 44).push #[.int .i64 op] 3).push #[.int .i64 most] 3).push #[.slice none 0 0] 52).push #[.pointer (some ⟨g, 0, none⟩)] 44).pushNil 51 7).flip).swp).flip).swp)
  simp only [World.size_alloc] at HT0
  clear h
  refine (callsIn_wide (n := 5)).1 (callsIn_of_wp_marks Try.func51 rfl trivial ?_ rfl)
  simp only [Try.ntmps51, List.size_toArray, List.length_cons, List.length_nil, Nat.reduceAdd, Nat.reduceSub, Array.replicate_succ, Array.replicate_zero, List.push_toArray, List.append_toArray, List.nil_append, List.cons_append]
  refine wpIn_wide.2 ?_
  go_wp2_with (first
    | (go_at_call 29; (with_reducible refine (all_any g _).mono ?_); rintro r w3 ⟨rfl, rfl⟩))
  obtain ⟨W0, hW0⟩ : ∃ W, W = ((((w.alloc (.cells #[.pointer (some ⟨g, 0, none⟩)] 44)).alloc (.cells #[.int .i64 op] 3)).alloc (.cells #[.int .i64 most] 3)).alloc (.cells #[.slice none 0 0] 52)).alloc (.cells #[.pointer (some ⟨g, 0, none⟩)] 44) := ⟨_, rfl⟩
  rw [← hW0] at HT0 ⊢
  have HS0 : Hid (W0.heap.size = w.heap.size + 5) := Lib.hid (by rw [hW0]; simp)
  clear hW0
  obtain ⟨bC, hbC⟩ : ∃ b, b = w.heap.size + 1 + 1 + 1 + 1 := ⟨_, rfl⟩
  rw [← hbC] at HT0 ⊢
  obtain ⟨b7, hb7⟩ : ∃ b, b = w.heap.size + 1 + 1 + 1 := ⟨_, rfl⟩
  rw [← hb7] at HT0 ⊢
  obtain ⟨b5, hb5⟩ : ∃ b, b = w.heap.size + 1 + 1 := ⟨_, rfl⟩
  rw [← hb5] at HT0 ⊢
  obtain ⟨b4, hb4⟩ : ∃ b, b = w.heap.size + 1 := ⟨_, rfl⟩
  rw [← hb4] at HT0 ⊢
  obtain ⟨b3, hb3⟩ : ∃ b, b = w.heap.size := ⟨_, rfl⟩
  rw [← hb3] at HT0 ⊢
  have HBS : Hid (w.heap.size ≤ W0.heap.size ∧ b7 < W0.heap.size ∧ bC < W0.heap.size ∧ ∀ x, (bxs b3 b4 b5 bC (.pointer (some ⟨g, 0, none⟩)) op most).foot x → x < W0.heap.size) := Lib.hid (by
    have h := HS0.out
    refine ⟨by omega, by omega, by omega, ?_⟩
    rintro x (hx | hx | hx | hx | hx)
    · have hx : x = bC := hx; omega
    · have hx : x = b5 := hx; omega
    · have hx : x = b4 := hx; omega
    · have hx : x = b3 := hx; omega
    · exact hx.elim)
  obtain ⟨hw0, hb70, hbC0, -⟩ := HBS.out
  clear hbC hb7 hb5 hb4 hb3 HS0
  have HP0 := Lib.hid (Own.chg HP.out HT0.out.chg (fun _ _ h => h))
  have HHA := Lib.hid (fun W h => has_ab g pb m A op W h)
  generalize hact : Act.mk _ _ = act
  have HACT := Lib.hid hact
  refine (wpIn_wide (n := 5)).1 ?_
  refine wpIn_rangeFunc_ownH rfl (by omega) (gf := 48) (lb := #[.pointer (some ⟨bC, 0, none⟩)]) (by rw [← hact]; rfl) trivial (enters_of Try.func48 (by kernel_rfl) rfl)
    (all_seq g pb m A bC W0.heap.size 4 ⟨b7, 0, none⟩ W0 (Nat.le_refl _) hb70 (fun b hb => oB_pts (B := bxs b3 b4 b5 bC (.pointer (some ⟨g, 0, none⟩)) op most) (zs := []) HT0.out.now b hb) hbC0 (bxs_see (zs := []) HT0.out.now).2.2.2.2.2 HP0.out (by omega)) kpt_t (kpt_b hb70) (Below.refl _ _) (fun _ => rfl)
    (fun pre W => W0.heap.size ≤ W.heap.size ∧ ∃ V, Turns w W Hp.Own.emp (oB b7 V (frL (hasA A op) op most pre).length (frL (hasA A op) op most pre) (bxs b3 b4 b5 bC (.pointer (some ⟨g, 0, none⟩)) op most)))
    (fun _ _ _ => False)
    ?hI ?hIx ?h0
    (fun x a' W => ∃ Bx, Vb W0.heap.size b7 W Bx x.2.cells.toArray 51 ∧ b7 < W.heap.size ∧ a' = { tmps := (((act.tmps.setIfInBounds 12 (.int .i64 x.1)).setIfInBounds 13 (.agg x.2.cells.toArray)).setIfInBounds 8 (.int .i64 x.1)).setIfInBounds 9 (.pointer (some ⟨Bx, 0, none⟩)), defers := [] })
    ?hAx ?assign ?body ?done ?stop
  case hI =>
    intro pre X Y row hs hg hr
    obtain ⟨h2, V, h3⟩ := hs
    exact ⟨Nat.le_trans h2 hg.size, V, turns_keep (celled_oB bxs_celled) hw0 h3 hg hr⟩
  case hIx => exact fun c => ownFrom_pure _ _
  case h0 => exact ⟨Nat.le_refl _, _, HT0.out⟩
  case hAx =>
    intro x a' s X Y row hs hg hr
    obtain ⟨Bx, h1, h2, h3⟩ := hs
    exact ⟨Bx, h1.keep hb70 h2 hg hr, Nat.lt_of_lt_of_le h2 hg.size, h3⟩
  case assign =>
    rintro l pre ⟨op', ec, en, kk, nm, tx, nu, mo⟩ W K ⟨hsz, V, ht⟩ hK
    have hsub := HACT.out
    subst hsub
    have hbW : b7 < W.heap.size := Nat.lt_of_lt_of_le hb70 hsz
    have HPL := Lib.hid (fun b hb => oB_pts ht.now b hb)
    have HTW := Lib.hid ht
    clear ht hact HACT
    dsimp only [encE, En.cells]
    gi_wp2_with fail
    exact hK _ _ ((KeepsOthers.alloc _ _).from _) (Kpt.of_chg ((Chg.refl _ _).alloc _) hbW) ⟨Nat.le_trans hsz (by simp), V, HTW.out.alloc _⟩
      ⟨W.heap.size, ⟨hsz, fun hp => Nat.lt_irrefl _ (HPL.out _ (pts_of_block (Below.heap_alloc _ _ _ hbW) _ hp)), Blk.new _ _ _⟩, Nat.lt_of_lt_of_le hbW (by simp), rfl⟩
  case body =>
    rintro l pre ⟨op', ec, en, ek, em, et, eu, eo⟩ a' W hl ⟨rl, hrl⟩ ⟨hsz, V, ht⟩ ⟨Bx, hvb, hbW, rfl⟩ hlt
    have hsub := HACT.out
    subst hsub
    obtain ⟨z0, z0f, z3, z4, z5, -⟩ := bxs_see ht.now
    obtain ⟨zs, hzs⟩ : ∃ zs, frL (hasA A op) op most pre = zs := ⟨_, rfl⟩
    have hlz : zs.length ≤ 64 := by have := frL_len (hasA A op) op most pre; rw [hzs] at this; omega
    rw [hzs] at ht
    obtain ⟨Av, cv, rfl⟩ := row_slice ht.now.2.1.1
    obtain ⟨nz, hnz⟩ : ∃ n, zs.length = n := ⟨_, rfl⟩
    rw [hnz] at ht hlz z0
    have HT := Lib.hid ht
    have HV := Lib.hid hvb
    have HZS := Lib.hid hzs
    have HNZ := Lib.hid hnz
    have HPW := Lib.hid (Own.chg HP.out ht.chg (fun _ _ h => h))
    have HW6 : Hid (∀ w6, Chg (fun _ => False) W w6 → Turns w w6 Hp.Own.emp (oB b7 (.slice Av nz cv) nz zs (bxs b3 b4 b5 bC (.pointer (some ⟨g, 0, none⟩)) op most)) ∧ Turns W w6 (oB b7 (.slice Av nz cv) nz zs (bxs b3 b4 b5 bC (.pointer (some ⟨g, 0, none⟩)) op most)) (oB b7 (.slice Av nz cv) nz zs (bxs b3 b4 b5 bC (.pointer (some ⟨g, 0, none⟩)) op most))) :=
      Lib.hid (fun w6 hc => ⟨ht.kept hc, (Turns.refl ht.now).kept hc⟩)
    clear ht hvb hzs hnz hact HACT hrl
    simp only [List.setIfInBounds_toArray, List.set_cons_zero, List.set_cons_succ, En.cells]
    have HNO : Hid (∀ w6, Chg (fun _ => False) W w6 → ¬ (hasA A op ∧ op ≤ op' ∧ (nz : Int) < most) → KeepsFrom W0.heap.size W w6 ∧ Kpt W0.heap.size ⟨b7, 0, none⟩ W w6 ∧ W0.heap.size ≤ w6.heap.size ∧ ∃ V, Turns w w6 Hp.Own.emp (oB b7 V (frL (hasA A op) op most (pre ++ [(op', ⟨ec, en, ek, em, et, eu, eo⟩)])).length (frL (hasA A op) op most (pre ++ [(op', ⟨ec, en, ek, em, et, eu, eo⟩)])) (bxs b3 b4 b5 bC (.pointer (some ⟨g, 0, none⟩)) op most))) := Lib.hid (by
      intro w6 hc hno
      obtain ⟨k1, k2⟩ := oB_kept HT.out.now (HW6.out w6 hc).2 hb70 HBS.out.2.2.2 bxs_celled
      refine ⟨k1, k2, Nat.le_trans hsz hc.size, .slice Av nz cv, ?_⟩
      rw [frL_next, HZS.out, frS, if_neg (by rw [HNZ.out]; exact hno), HNZ.out]
      exact (HW6.out w6 hc).1)
    by_cases c1 : hasA A op
    · have d1 : decide (hasA A op) = true := by simpa using c1
      by_cases c2 : op ≤ op'
      · have d2 : decide (op ≤ op') = true := by simpa using c2
        by_cases c3 : (nz : Int) < most
        · have d3 : decide ((nz : Int) < most) = true := by simpa using c3
          have HC1 := Lib.hid c1
          have HC2 := Lib.hid c2
          have HC3 := Lib.hid c3
          clear c1 c2 c3
          gi_wp2_with (first
            | (refine ⟨trivial, ?_⟩; gi_at_call 46; refine (CallsIn.inRound l (callsIn_wide.2 (HHA.out _ (by exact HPW.out)))).mono ?_; rintro r w6 ⟨rfl, hc6⟩; rw [d1]; have HT6 := Lib.hid (HW6.out w6 hc6); obtain ⟨y0, y0f, y3, y4, y5, -⟩ := bxs_see HT6.out.1.now; have HB6 := Lib.hid (HV.out.2.2.chg hc6 (fun h => h)); have q0 : w6.cell? ⟨Bx, 0, none⟩ = some (.int .i64 ec) := HB6.out.cell 0; have q1 : w6.cell? ⟨Bx, 1, none⟩ = some (.int .i64 en) := HB6.out.cell 1; have q2 : w6.cell? ⟨Bx, 2, none⟩ = some (.int .i64 ek) := HB6.out.cell 2; have q3 : w6.cell? ⟨Bx, 3, none⟩ = some (.string em) := HB6.out.cell 3; have q4 : w6.cell? ⟨Bx, 4, none⟩ = some (.string et) := HB6.out.cell 4; have q5 : w6.cell? ⟨Bx, 5, none⟩ = some (.int .i64 eu) := HB6.out.cell 5; have q6 : w6.cell? ⟨Bx, 6, none⟩ = some (.int .i64 eo) := HB6.out.cell 6)
            | (gi_at_builtin; refine wpListIn_app1M rfl (.tmp 28) (.tmp 30) 52 rfl 51 ij (.agg En.zero.cells.toArray) 7 72 Try.underlying52 hij hzaj hzbj hzcj rfl (by decide) (.slice Av nz cv) nz (flat zs) rfl _ _ _ rfl (by first | rfl | simp) HT6.out.1.now.2.1.1 rfl (by exact (En.mk ec en ek em et eu eo).one) (by simp only [maxLen]; omega) (by omega) ?_; intro g7 c7 w7 hc7 ht7; have HT7 := Lib.hid (HT6.out.2.at10 ht7); have HT8 := Lib.hid (HT6.out.1.at10 ht7); clear ht7; have x0 := HT7.out.now.1.cell 0; have x1 := HT7.out.now.1.frozen 0))
          have ec1 : flat zs ++ (#[.int .i64 ec, .int .i64 en, .int .i64 ek, .string em, .string et, .int .i64 eu, .int .i64 eo] : Array Value).toList = flat (zs ++ [⟨ec, en, ek, em, et, eu, eo⟩]) := by rw [flat_append, flat_one]; rfl
          rw [ec1] at HT7 HT8
          have t9 := HT7.out.put0 0 (.slice (some ⟨g7, 0, none⟩) (nz + 1) c7)
          obtain ⟨k1, k2⟩ := oB_kept HT.out.now t9 hb70 HBS.out.2.2.2 bxs_celled
          refine ⟨k1, k2, Nat.le_trans hsz t9.chg.size, .slice (some ⟨g7, 0, none⟩) (nz + 1) c7, ?_⟩
          rw [frL_next, HZS.out, frS, if_pos ⟨HC1.out, HC2.out, by rw [HNZ.out]; exact HC3.out⟩, List.length_append, HNZ.out]
          exact HT8.out.put0 0 (.slice (some ⟨g7, 0, none⟩) (nz + 1) c7)
        · have d3 : decide ((nz : Int) < most) = false := by simpa using c3
          gi_wp2_with (refine ⟨trivial, ?_⟩; gi_at_call 46; refine (CallsIn.inRound l (callsIn_wide.2 (HHA.out _ (by exact HPW.out)))).mono ?_; rintro r w6 ⟨rfl, hc6⟩; rw [d1]; obtain ⟨y0, y0f, y3, y4, y5, -⟩ := bxs_see (HW6.out w6 hc6).1.now)
          exact HNO.out _ hc6 (fun h => by have := h.2.2; omega)
      · have d2 : decide (op ≤ op') = false := by simpa using c2
        gi_wp2_with (refine ⟨trivial, ?_⟩; gi_at_call 46; refine (CallsIn.inRound l (callsIn_wide.2 (HHA.out _ (by exact HPW.out)))).mono ?_; rintro r w6 ⟨rfl, hc6⟩; rw [d1]; obtain ⟨y0, y0f, y3, y4, y5, -⟩ := bxs_see (HW6.out w6 hc6).1.now)
        exact HNO.out _ hc6 (fun h => by have := h.2.1; omega)
    · have d1 : decide (hasA A op) = false := by simpa using c1
      gi_wp2_with (refine ⟨trivial, ?_⟩; gi_at_call 46; refine (CallsIn.inRound l (callsIn_wide.2 (HHA.out _ (by exact HPW.out)))).mono ?_; rintro r w6 ⟨rfl, hc6⟩; rw [d1]; obtain ⟨y0, y0f, y3, y4, y5, -⟩ := bxs_see (HW6.out w6 hc6).1.now)
      exact HNO.out _ hc6 (fun h => c1 h.1)
  case done =>
    rintro D xs W hD hS ⟨hsz, V, ht⟩ hK
    have hsub := HACT.out
    subst hsub
    subst hS
    have z0 : W.cell? ⟨b7, 0, none⟩ = some V := ht.now.1.cell 0
    have HTW := Lib.hid ht
    have HKD := Lib.hid hK
    clear ht hK hact HACT
    dsimp only []
    go_wp2_with fail
    refine ⟨by simp, .inl ⟨_, _, rfl, run_takeDeferred HKD.out, ?_⟩⟩
    refine ⟨V, by simp [results, Try.results51, go_sem], V, _, rfl, rfl, ?_⟩
    exact turns_keep (celled_row _ _ _ _ _) hw0 (HTW.out.dropL.dropR) (grownBy_putObj' W D (.deferred none)) (fun r e => by cases e; exact ⟨hD, _, HKD.out, rfl⟩)
  case stop => exact fun D c pre W _ hp hx => hx.elim
end Go.Proofs.Ytpaaghbmlenlfaa.Ol
