/- The document's From; both logs' From are one. -/
import Derived.Test.YtpaaghbmlenlfaaOlSk
namespace Go.Proofs.Ytpaaghbmlenlfaa.Ol
open Go.Hp.M7
open Go.RowKit Go.Hp
attribute [local go_sem] min2_lean min_two max2_lean max_two
set_option linter.unusedSimpArgs false
set_option linter.unusedVariables false
set_option maxRecDepth 100000
/-- From. -/
def aFr (A : Ab) (op most : Int) : List En := if hasA A op then (A.2.drop (op - A.1 - 1).toNat).take most.toNat else []
theorem frL_no {h : Prop} [Decidable h] (hn : ¬ h) (op most : Int) (xs : List (Int × En)) : frL h op most xs = [] := by
  have key : ∀ (l : List (Int × En)), l.foldl (frS h op most) [] = [] := by
    intro l
    induction l with
    | nil => rfl
    | cons x l ih => rw [List.foldl_cons, frS, if_neg (fun h => hn h.1)]; exact ih
  exact key xs
theorem upA_zero (A : Ab) : upA A 0 = [] := rfl
/-- What From gathers behind j rounds, plainly. -/
theorem frL_upA {A : Ab} {op most : Int} {d : Nat} (hh : hasA A op) (hd : op = A.1 + 1 + d) : ∀ j, j ≤ A.2.length → frL (hasA A op) op most (upA A j) = ((A.2.take j).drop d).take most.toNat
  | 0, _ => by simp [frL, upA]
  | j + 1, hj => by
    rw [upA_succ, frL_next, frL_upA hh hd j (by omega)]
    have htk : A.2.take (j + 1) = A.2.take j ++ [A.2.getD j default] := by
      rw [List.take_add_one, List.getD_eq_getElem?_getD, List.getElem?_eq_getElem (by omega)]
      rfl
    have hlj : (A.2.take j).length = j := by rw [List.length_take]; omega
    unfold frS
    by_cases h1 : d ≤ j
    · have hdr : (A.2.take (j + 1)).drop d = (A.2.take j).drop d ++ [A.2.getD j default] := by rw [htk, List.drop_append_of_le_length (by omega)]
      have hlen : ((A.2.take j).drop d).length = j - d := by rw [List.length_drop, hlj]
      by_cases h2 : ((((A.2.take j).drop d).take most.toNat).length : Int) < most
      · rw [if_pos ⟨hh, by rw [hd]; show A.1 + 1 + (d : Int) ≤ A.1 + 1 + (j : Int); omega, h2⟩, hdr]
        rw [List.length_take, hlen] at h2
        have e1 : ((A.2.take j).drop d).take most.toNat = (A.2.take j).drop d := List.take_of_length_le (by rw [hlen]; omega)
        have e2 : ((A.2.take j).drop d ++ [A.2.getD j default]).take most.toNat = (A.2.take j).drop d ++ [A.2.getD j default] := List.take_of_length_le (by rw [List.length_append, hlen]; simp; omega)
        rw [e1, e2]
      · rw [if_neg (fun h => h2 h.2.2), hdr]
        rw [List.length_take, hlen] at h2
        rw [List.take_append_of_le_length (by rw [hlen]; omega)]
    · rw [if_neg (fun h => by have := h.2.1; rw [hd] at this; have h3 : A.1 + 1 + (d : Int) ≤ A.1 + 1 + (j : Int) := this; omega)]
      rw [List.drop_of_length_le (by omega), List.drop_of_length_le (by rw [htk, List.length_append, hlj]; simp; omega)]
theorem frL_eq (A : Ab) (op most : Int) : frL (hasA A op) op most (upA A A.2.length) = aFr A op most := by
  unfold aFr
  by_cases hh : hasA A op
  · have hh' := hh
    unfold hasA at hh'
    obtain ⟨d, hd⟩ : ∃ d : Nat, op = A.1 + 1 + d := ⟨(op - A.1 - 1).toNat, by omega⟩
    rw [if_pos hh, frL_upA hh hd _ (Nat.le_refl _), List.take_length, show (op - A.1 - 1).toNat = d by omega]
  · rw [if_neg hh, frL_no hh]
set_option maxHeartbeats 2000000 in
theorem qFrom (g m : Nat) (v : Value) (A : Ab) (op most : Int) (w : World) (h : (qO g m v A).holds w) (hok : A.Ok m) : Calls Try.prog 54 #[.pointer (some ⟨g, 0, none⟩), .int .i64 op, .int .i64 most] w fun e w' => ∃ V n, n = (aFr A op most).length ∧ e = .returned V ∧ Turns w w' Hp.Own.emp (Hp.Own.row 51 7 V n (flat (aFr A op most))) := by
  obtain ⟨ij, hij, hzaj, hzbj, hzcj⟩ := info_parts Try.info51
  have HO := Lib.hid (fun W h => qhas g m v A op W h hok)
  have HQ := Lib.hid (fun W h => qOp g m v A W h hok)
  have H := Lib.hid h
  have l3 := hok.b0
  have l4 := hok.b1
  have l2 : A.2.length ≤ 64 := by have := hok.len; have := hok.m64; omega
  obtain ⟨Av, cv, rfl⟩ := rO_slice h
  clear h
  by_cases hh : hasA A op
  · have d1 : decide (hasA A op) = true := by simpa using hh
    have hh' := hh
    unfold hasA at hh'
    obtain ⟨d, hd⟩ : ∃ d : Nat, op = A.1 + 1 + d := ⟨(op - A.1 - 1).toNat, by omega⟩
    have hdl : d < A.2.length := by omega
    have HAF : Hid (aFr A op most = (A.2.drop d).take most.toNat) := Lib.hid (by unfold aFr; rw [if_pos hh, show (op - A.1 - 1).toNat = d by omega])
    obtain ⟨n, hn⟩ : ∃ n, A.2.length = n := ⟨_, rfl⟩
    have HN := Lib.hid hn
    rw [hn] at hdl l2 l4 H HO HQ
    have HD := Lib.hid hd
    have hop0 : 0 ≤ op := by omega
    have hop1 : op ≤ 1099511627776 := by omega
    clear hh hh' hn hd
    go_enter Try.func54, Try.ntmps54
    go_wp2_with (first
      | (go_at_call 62; (with_reducible refine (HO.out _ (by exact H.out)).mono ?_); rintro r w1 ⟨rfl, hc⟩; rw [d1]))
    have HC1 := Lib.hid hc
    clear hc
    go_loopw [7, 8] (fun x7 x8 wr => ∃ (j nz : Nat) (Az : Option Addr) (cz : Nat), x8 = .int .i64 (op + j) ∧ d + j ≤ n ∧ nz = j ∧ (nz : Int) ≤ max most 0 ∧ x7 = .slice Az nz cz ∧ Turns w wr Hp.Own.emp (Hp.Own.row 51 7 (.slice Az nz cz) nz (flat ((A.2.drop d).take nz)))) (fun _ x8 _ => (A.1 + n + 1 - intOf x8).toNat)
    case atStart => exact ⟨0, 0, none, 0, by simp, by omega, rfl, by omega, rfl, (Turns.of_kept (O := Hp.Own.emp) trivial HC1.out).trans (Turns.trans (Turns.refl trivial) ⟨Chg.refl _ _, World.ownsRow_nil _ _ _ _, fun b hb => by cases hb⟩)⟩
    case round =>
      obtain ⟨j, nz, Az, cz, rfl, hj, hnz, hmx, rfl, ht⟩ := hrel
      have HT := Lib.hid ht
      have HNZ := Lib.hid hnz
      have hnz64 : nz ≤ 64 := by omega
      have hj64 : j ≤ 64 := by omega
      have HQW := Lib.hid (Own.chg H.out ht.chg (fun _ _ h => h))
      have hdo := HD.out
      have hw3 : IntKind.i64.wrap (op + (j : Int) + 1) = op + ((j + 1 : Nat) : Int) := by rw [IntWalk.i64_in _ (by omega)]; omega
      by_cases c1 : d + j < n
      · have e1 : decide (op + (j : Int) ≤ A.1 + (n : Int)) = true := by simp; omega
        by_cases c2 : (nz : Int) < most
        · have e2 : decide ((nz : Int) < most) = true := by simpa using c2
          have HC2 := Lib.hid c2
          obtain ⟨e, he⟩ : ∃ e, A.2[d + j]? = some e := ⟨_, List.getElem?_eq_getElem (by rw [HN.out]; exact c1)⟩
          have HE := Lib.hid he
          have hw1 : IntKind.i64.wrap (op + (j : Int) - A.1) = op + (j : Int) - A.1 := IntWalk.i64_in _ (by omega)
          have hw2 : IntKind.i64.wrap (op + (j : Int) - A.1 - 1) = ((d + j : Nat) : Int) := by rw [show op + (j : Int) - A.1 - 1 = ((d + j : Nat) : Int) by omega]; exact IntWalk.i64_in _ (by omega)
          have hk0 : (0 : Int) ≤ ((d + j : Nat) : Int) := Int.natCast_nonneg _
          have hk1 : ((d + j : Nat) : Int) < (n : Int) := by omega
          generalize hq : d + j = q at *
          have HQQ := Lib.hid hq
          clear ht hnz c2 he hdo hq
          go_wp2_with (first
            | (go_at_call 38; (with_reducible refine (HQ.out _ (by exact HQW.out)).mono ?_); rintro r w2 ⟨rfl, hc2⟩))
          have HT2 := Lib.hid (HT.out.kept hc2)
          have HQ2 := Lib.hid (Own.chg HQW.out hc2 (fun _ _ h => h))
          clear hc2
          obtain ⟨-, g1, g2⟩ := rO_cells HQ2.out
          have hrow := HQ2.out.2.1
          rw [HN.out] at hrow
          obtain ⟨vb, voff, rfl, hvb, hx⟩ := EnS.of_row (c := cv) (l := A.2) (by rw [HN.out]; exact hrow) q e HE.out
          obtain ⟨ec, en, ek, em, et, eu, eo⟩ := e
          have p0 : w2.cell? ⟨vb, voff + q * 7, none⟩ = some (.int .i64 ec) := hx 0 _ rfl
          have p1 : w2.cell? ⟨vb, voff + q * 7 + 1, none⟩ = some (.int .i64 en) := hx 1 _ rfl
          have p2 : w2.cell? ⟨vb, voff + q * 7 + 2, none⟩ = some (.int .i64 ek) := hx 2 _ rfl
          have p3 : w2.cell? ⟨vb, voff + q * 7 + 3, none⟩ = some (.string em) := hx 3 _ rfl
          have p4 : w2.cell? ⟨vb, voff + q * 7 + 4, none⟩ = some (.string et) := hx 4 _ rfl
          have p5 : w2.cell? ⟨vb, voff + q * 7 + 5, none⟩ = some (.int .i64 eu) := hx 5 _ rfl
          have p6 : w2.cell? ⟨vb, voff + q * 7 + 6, none⟩ = some (.int .i64 eo) := hx 6 _ rfl
          clear hrow hx
          go_region_law (first
            | (rw [alloc_drew]; refine step_app1M rfl (.tmp 26) (.tmp 40) 52 rfl 51 ij (.agg En.zero.cells.toArray) 7 72 Try.underlying52 hij hzaj hzbj hzcj rfl (by decide) (.slice Az nz cz) nz (flat ((A.2.drop d).take nz)) rfl _ _ _ rfl (by first | rfl | simp) (by exact HT2.out.drew.now) rfl (by exact (En.mk ec en ek em et eu eo).one) (by simp only [maxLen]; omega) (by omega) ?_; intro g4 q4 w4 hc4 ht4; have HT4 := Lib.hid (HT2.out.drew.trans ht4); clear ht4))
          all_goals
            go_wp2_with fail
            go_roundw
            case rel =>
              refine ⟨j + 1, nz + 1, _, _, rfl, by have := HQQ.out; omega, by rw [HNZ.out], by have := HC2.out; omega, rfl, ?_⟩
              have h : Turns w w4 Hp.Own.emp (Hp.Own.row 51 7 (.slice (some ⟨g4, 0, none⟩) (nz + 1) q4) (nz + 1) (flat ((A.2.drop d).take nz) ++ (En.mk ec en ek em et eu eo).cells)) := HT4.out
              have htk : (A.2.drop d).take (nz + 1) = (A.2.drop d).take nz ++ [⟨ec, en, ek, em, et, eu, eo⟩] := by
                rw [List.take_add_one, List.getElem?_drop, show d + nz = q by have := HQQ.out; have := HNZ.out; omega, HE.out]
                rfl
              rw [htk, flat_append, flat_one]
              exact h
            case measure => have a1 := HD.out; have a2 := HQQ.out; simp [intOf]; omega
        · have e2 : decide ((nz : Int) < most) = false := by simpa using c2
          have HR : Hid ((A.2.drop d).take nz = aFr A op most ∧ nz = (aFr A op most).length) := Lib.hid (by
            have hnm : nz = most.toNat := by omega
            rw [HAF.out, hnm]
            refine ⟨rfl, ?_⟩
            have := HN.out
            rw [List.length_take, List.length_drop]
            omega)
          clear ht hnz c2 hdo
          go_wp2_with (first
            | (go_at_call 38; (with_reducible refine (HQ.out _ (by exact HQW.out)).mono ?_); rintro r w2 ⟨rfl, hc2⟩))
          have h9 := HT.out.kept hc2
          rw [HR.out.1] at h9
          exact bodyPost_ret (v := .slice Az nz cz) (by simp [results, Try.results54, go_sem]) rfl ⟨_, nz, HR.out.2, rfl, h9⟩
      · have e1 : decide (op + (j : Int) ≤ A.1 + (n : Int)) = false := by simp; omega
        have HR : Hid ((A.2.drop d).take nz = aFr A op most ∧ nz = (aFr A op most).length) := Lib.hid (by
          have hln : (A.2.drop d).length = nz := by rw [List.length_drop, HN.out]; omega
          have e1 : (A.2.drop d).take nz = A.2.drop d := List.take_of_length_le (by omega)
          have e2 : (A.2.drop d).take most.toNat = A.2.drop d := List.take_of_length_le (by omega)
          rw [HAF.out, e1, e2]
          exact ⟨rfl, hln.symm⟩)
        clear ht hnz hdo
        go_wp2_with (first
          | (go_at_call 38; (with_reducible refine (HQ.out _ (by exact HQW.out)).mono ?_); rintro r w2 ⟨rfl, hc2⟩))
        have h9 := HT.out.kept hc2
        rw [HR.out.1] at h9
        exact bodyPost_ret (v := .slice Az nz cz) (by simp [results, Try.results54, go_sem]) rfl ⟨_, nz, HR.out.2, rfl, h9⟩
  · have d1 : decide (hasA A op) = false := by simpa using hh
    have HAF : Hid (aFr A op most = []) := Lib.hid (by unfold aFr; rw [if_neg hh])
    clear hh
    go_enter Try.func54, Try.ntmps54
    go_wp2_with (first
      | (go_at_call 62; (with_reducible refine (HO.out _ (by exact H.out)).mono ?_); rintro r w1 ⟨rfl, hc⟩; rw [d1]))
    refine bodyPost_ret (v := .slice none 0 0) (by simp [results, Try.results54, go_sem]) rfl ⟨_, 0, by rw [HAF.out]; rfl, rfl, ?_⟩
    rw [HAF.out]
    exact (Turns.of_kept (O := Hp.Own.emp) trivial hc).trans ⟨Chg.refl _ _, World.ownsRow_nil _ _ _ _, fun b hb => by cases hb⟩
end Go.Proofs.Ytpaaghbmlenlfaa.Ol
