/- The document's own table of timers: Arm. -/
import Derived.Test.YtmpkjfengfgagaaTmRh
namespace Go.Proofs.Ytmpkjfengfgagaa.Tf
open Go.RowKit Go.Hp
attribute [local go_sem] min2_lean min_two max2_lean max_two
set_option linter.unusedSimpArgs false
set_option linter.unusedVariables false
set_option maxRecDepth 100000
def rins (k : Nm) (q : Int) : Rt → Rt
  | [] => [(k, q)]
  | x :: t => if bef k x.1 = true then (k, q) :: x :: t else x :: rins k q t
def rarmE (l : Rt) (k : Nm) (t : Int) : Int := if t < 1 ∨ 1024 < t then 30 else if plc l k = none ∧ 32 ≤ l.length then 31 else 0
def rarmL (l : Rt) (k : Nm) (t : Int) : Rt := if rarmE l k t = 0 then (match plc l k with | some i => l.set i (k, t) | none => rins k t l) else l
theorem rins_at {l : Rt} {i : Nat} {x : Nm × Int} (hx : l[i]? = some x) : l.drop i = x :: l.drop (i + 1) := by
  obtain ⟨h, rfl⟩ := List.getElem?_eq_some_iff.1 hx
  exact List.drop_eq_getElem_cons h
theorem tcs_set (l : Rt) (i : Nat) (k : Nm) (q t : Int) (hx : l[i]? = some (k, q)) : (tcs l).flatten.set (i * 3 + 2) (.int .i64 t) = (tcs (l.set i (k, t))).flatten := by
  have h : (tcs l)[i]? = some (tc (k, q)) := by rw [tcs, List.getElem?_map, hx]; rfl
  rw [fl_set (tcs_wd l) h (by decide : 2 < 3)]
  congr 1
  unfold tcs
  rw [List.map_set]
  rfl
set_option maxHeartbeats 2000000 in
theorem arm_any (g : Nat) (v : Value) (l : Rt) (k : Nm) (t : Int) (w : World) (h : (rO g v l).holds w) (hl : l.length ≤ 1000000) :
    Calls Try.prog 90 #[.pointer (some ⟨g, 0, none⟩), .agg #[encStr k.1, .int .i64 k.2], .int .i64 t] w fun e w' => e = .returned (.int .i64 (rarmE l k t)) ∧ ∃ v', Turns w w' (rO g v l) (rO g v' (rarmL l k t)) := by
  obtain ⟨ij, hij, hzaj, hzbj, hzcj⟩ := info_parts Try.info178
  obtain ⟨A, c, rfl⟩ := row_slice (rO_row h)
  have H1 := Lib.hid ((Turns.refl h).push #[encStr k.1, .int .i64 k.2] 171)
  have HP := Lib.hid (place_any g _ l k _ H1.out.n1 hl)
  have h0 := (rO_cell h).1
  have hg := (rO_cell h).2.2
  obtain ⟨n, hn⟩ : ∃ n, l.length = n := ⟨_, rfl⟩
  rw [hn] at h0 H1 hl ⊢
  have HN := Lib.hid hn
  clear h hn
  by_cases hb : t < 1 ∨ 1024 < t
  · have HE : Hid (rarmE l k t = 30) := Lib.hid (by rw [rarmE, if_pos hb])
    have HL : Hid (rarmL l k t = l) := Lib.hid (by rw [rarmL, HE.out, if_neg (by decide)])
    have hfin : Hid (Turns w (w.alloc (.cells #[encStr k.1, .int .i64 k.2] 171)) (rO g (.slice A n c) l) (rO g (.slice A n c) (rarmL l k t))) := Lib.hid (by rw [HL.out]; exact H1.out.dropL)
    by_cases h1 : t < 1
    · have hd : decide (t < 1) = true := by simpa using h1
      clear hb
      go_enter Try.func90, Try.ntmps90
      go_wp2_with fail
      go_ret
      exact ⟨by rw [HE.out]; rfl, _, hfin.out⟩
    · have hd : decide (t < 1) = false := by simpa using h1
      have h2 : 1024 < t := by omega
      have hd2 : decide (1024 < t) = true := by simpa using h2
      clear hb
      go_enter Try.func90, Try.ntmps90
      go_wp2_with fail
      go_ret
      exact ⟨by rw [HE.out]; rfl, _, hfin.out⟩
  · have hd : decide (t < 1) = false := by simp; omega
    have hd2 : decide (1024 < t) = false := by simp; omega
    cases hp : plc l k with
    | some p =>
      obtain ⟨q0, hq⟩ := plc_lt hp
      have HE : Hid (rarmE l k t = 0) := Lib.hid (by rw [rarmE, if_neg hb, if_neg (by simp [hp])])
      have HL : Hid (rarmL l k t = l.set p (k, t)) := Lib.hid (by rw [rarmL, HE.out, if_pos rfl, hp])
      have hpi := Lib.hid (plI_some hp)
      have hpl : p < n := by have := (List.getElem?_eq_some_iff.1 hq).1; have := HN.out; omega
      have hd1 : decide (0 ≤ (p : Int)) = true := by simp
      have HQ := Lib.hid hq
      clear hp hq hb
      go_enter Try.func90, Try.ntmps90
      go_wp2_with (first
        | (go_at_call 118; (with_reducible refine HP.out.mono ?_); rintro r w1 ⟨rfl, hc1⟩; rw [hpi.out]; have HT1 := Lib.hid (H1.out.kept hc1).dropL; clear hc1; have h1 := (rO_cell HT1.out.now).1; have hg1 := (rO_cell HT1.out.now).2.2; obtain ⟨b, rfl, hb, hbg, c0, c1, c2, c2f⟩ := rO_at HT1.out.now HQ.out))
      go_ret
      refine ⟨by rw [HE.out]; rfl, .slice (some ⟨b, 0, none⟩) n c, ?_⟩
      rw [HL.out]
      obtain rfl := HN.out
      have hr := rO_row HT1.out.now
      refine HT1.out.trans ?_
      have h5 := Turns.rightT HT1.out.now (Turns.row_set hr (p * 3 + 2) (.int .i64 t))
      rw [tcs_set l p k q0 t HQ.out] at h5
      unfold rO
      rw [List.length_set]
      exact h5
    | none =>
      have hpi := Lib.hid (plI_none hp)
      have hd1 : decide (0 ≤ (-1 : Int)) = false := by decide
      by_cases hf : 32 ≤ n
      · have HE : Hid (rarmE l k t = 31) := Lib.hid (by rw [rarmE, if_neg hb, if_pos ⟨hp, by rw [HN.out]; exact hf⟩])
        have HL : Hid (rarmL l k t = l) := Lib.hid (by rw [rarmL, HE.out, if_neg (by decide)])
        have hd4 : decide (32 ≤ (n : Int)) = true := by simp; omega
        have hd5 : decide (32 ≤ n) = true := by simp; omega
        clear hp hb
        go_enter Try.func90, Try.ntmps90
        go_wp2_with (first
          | (go_at_call 118; (with_reducible refine HP.out.mono ?_); rintro r w1 ⟨rfl, hc1⟩; rw [hpi.out]; have HT1 := Lib.hid (H1.out.kept hc1).dropL; clear hc1; have h1 := (rO_cell HT1.out.now).1; have hg1 := (rO_cell HT1.out.now).2.2))
        go_ret
        refine ⟨by rw [HE.out]; rfl, .slice A n c, ?_⟩
        rw [HL.out]
        exact HT1.out
      · have HE : Hid (rarmE l k t = 0) := Lib.hid (by rw [rarmE, if_neg hb, if_neg (by rw [HN.out]; omega)])
        have HL : Hid (rarmL l k t = rins k t l) := Lib.hid (by rw [rarmL, HE.out, if_pos rfl, hp])
        have hd4 : decide (32 ≤ (n : Int)) = false := by simp; omega
        have hd5 : decide (32 ≤ n) = false := by simp; omega
        clear hp hb
        go_enter Try.func90, Try.ntmps90
        go_wp2_with (first
          | (go_at_call 118; (with_reducible refine HP.out.mono ?_); rintro r w1 ⟨rfl, hc1⟩; rw [hpi.out]; have HT1 := Lib.hid (H1.out.kept hc1); clear hc1; have h1 := (rO_cell HT1.out.n1).1; have hg1 := (rO_cell HT1.out.n1).2.2))
        have HT0 := Lib.hid (HT1.out.pushNil 178 3)
        go_loopw [8, 9, 42] (fun x8 x9 x42 wr => ∃ (i m : Nat) (ld : Bool) (o : Rt) (A' : Option Addr) (c' : Nat), x42 = .int .i64 i ∧ x9 = .bool ld ∧ x8 = .slice A' m c' ∧ i ≤ n ∧ m ≤ 2 * i + 1 ∧ o.length = m ∧
          rins k t l = o ++ (if ld = true then l.drop i else rins k t (l.drop i)) ∧
          Turns w wr (rO g (.slice A n c) l) (Hp.Own.both (Hp.Own.row 178 3 (.slice A' m c') m (tcs o).flatten) (Hp.Own.both (Hp.Own.blk w.heap.size #[encStr k.1, .int .i64 k.2] 171) (rO g (.slice A n c) l)))) (fun _ _ x42 _ => n - (intOf x42).toNat)
        case atStart => exact ⟨0, 0, false, [], none, 0, rfl, rfl, rfl, Nat.zero_le _, by omega, rfl, by simp, HT0.out⟩
        case round =>
          obtain ⟨i, m, ld, o, A', c', rfl, rfl, rfl, hi, hmi, hm, ho, ht⟩ := hrel
          have HT := Lib.hid ht
          have HM := Lib.hid hm
          have HO := Lib.hid ho
          clear ht hm ho h1 hg1 h0 hg
          have h0 := (rO_cell HT.out.n11).1
          have h0f := (rO_cell HT.out.n11).2.1
          have hg := (rO_cell HT.out.n11).2.2
          by_cases hlt : i < n
          · have hd2 : decide ((i : Int) < (n : Int)) = true := by simp; omega
            have hd3 : decide (i < n) = true := by simp; omega
            obtain ⟨x, hx⟩ : ∃ x, l[i]? = some x := ⟨_, List.getElem?_eq_getElem (by have := HN.out; omega)⟩
            obtain ⟨b, rfl, hb, hbg, c0, c1, c2, c2f⟩ := rO_at HT.out.n11 hx
            have HD := Lib.hid (rins_at hx)
            clear hx
            obtain ⟨⟨s', m'⟩, q⟩ := x
            have HA := Lib.hid (HT.out.push #[encStr s', .int .i64 m', .int .i64 q] 178)
            have y0 : wr.cell? ⟨w.heap.size, 0, none⟩ = some (encStr k.1) := HT.out.b10.cell 0
            have y1 : wr.cell? ⟨w.heap.size, 1, none⟩ = some (.int .i64 k.2) := HT.out.b10.cell 1
            have hwl : w.heap.size < wr.heap.size := Blk.lt HT.out.b10
            cases ld with
            | true =>
              go_wp2_with (first
                | ((at_builtin; refine wpList_app1 _ rfl (.tmp 60) (.tmp 62) 96 rfl 178 ij (.agg #[.string ByteArray.empty, .int .i64 0, .int .i64 0]) 3 32 Try.underlying96 hij hzaj hzbj hzcj rfl (by decide) (.slice A' m c') m ((tcs o).flatten) rfl _ _ _ rfl (by first | rfl | simp) HA.out.n10 rfl (by simp [Value.oneCell', encStr]) (by simp only [maxLen]; omega) (by omega) ?_; intro g4 c4 w4 hc4 ht4; have HT4 := Lib.hid ht4; clear ht4)))
              go_roundw
              case rel =>
                refine ⟨i + 1, m + 1, true, o ++ [((s', m'), q)], _, _, by simp, rfl, rfl, by omega, by omega, by rw [List.length_append, HM.out]; rfl, ?_, ?_⟩
                · rw [HO.out, if_pos rfl, if_pos rfl, HD.out]
                  simp
                · rw [← tcs_snoc]
                  exact (HA.out.at10 HT4.out).dropL
              case measure => simp [intOf]; omega
            | false =>
              cases hbf : bef k (s', m') with
              | true =>
                have HBF := Lib.hid hbf
                clear hbf
                go_wp2_with (first
                  | (go_at_call 119; (with_reducible refine (before_any k (s', m') _).mono ?_); rintro r w5 ⟨rfl, hc5⟩; rw [HBF.out]; have HB := Lib.hid (HA.out.kept hc5); clear hc5; have x0 : w5.cell? ⟨wr.heap.size, 0, none⟩ = some (encStr s') := HB.out.b0.cell 0; have x1 : w5.cell? ⟨wr.heap.size, 1, none⟩ = some (.int .i64 m') := HB.out.b0.cell 1; have x2 : w5.cell? ⟨wr.heap.size, 2, none⟩ = some (.int .i64 q) := HB.out.b0.cell 2; have y0 : w5.cell? ⟨w.heap.size, 0, none⟩ = some (encStr k.1) := HB.out.b110.cell 0; have y1 : w5.cell? ⟨w.heap.size, 1, none⟩ = some (.int .i64 k.2) := HB.out.b110.cell 1)
                  | ((at_builtin; refine wpList_app1 _ rfl (.tmp 54) (.tmp 58) 96 rfl 178 ij (.agg #[.string ByteArray.empty, .int .i64 0, .int .i64 0]) 3 32 Try.underlying96 hij hzaj hzbj hzcj rfl (by decide) (.slice A' m c') m ((tcs o).flatten) rfl _ _ _ rfl (by first | rfl | simp) HB.out.n10 rfl (by simp [Value.oneCell', encStr]) (by simp only [maxLen]; omega) (by omega) ?_; intro g6 c6 w6 hc6 ht6; have HT6 := Lib.hid ht6; clear ht6); have HC : Hid (Turns w w6 (rO g (.slice (some ⟨b, 0, none⟩) n c) l) (Hp.Own.both (Hp.Own.blk wr.heap.size #[encStr s', .int .i64 m', .int .i64 q] 178) (Hp.Own.both (Hp.Own.row 178 3 (.slice (some ⟨g6, 0, none⟩) (m + 1) c6) (m + 1) (tcs (o ++ [(k, t)])).flatten) (Hp.Own.both (Hp.Own.blk w.heap.size #[encStr k.1, .int .i64 k.2] 171) (rO g (.slice (some ⟨b, 0, none⟩) n c) l))))) := Lib.hid (by (rw [← tcs_snoc]; exact HB.out.at10 HT6.out)); have z0 : w6.cell? ⟨wr.heap.size, 0, none⟩ = some (encStr s') := HC.out.b0.cell 0; have z1 : w6.cell? ⟨wr.heap.size, 1, none⟩ = some (.int .i64 m') := HC.out.b0.cell 1; have z2 : w6.cell? ⟨wr.heap.size, 2, none⟩ = some (.int .i64 q) := HC.out.b0.cell 2)
                  | ((at_builtin; refine wpList_app1 _ rfl (.tmp 60) (.tmp 62) 96 rfl 178 ij (.agg #[.string ByteArray.empty, .int .i64 0, .int .i64 0]) 3 32 Try.underlying96 hij hzaj hzbj hzcj rfl (by decide) (.slice (some ⟨g6, 0, none⟩) (m + 1) c6) (m + 1) ((tcs (o ++ [(k, t)])).flatten) rfl _ _ _ rfl (by first | rfl | simp) HC.out.n10 rfl (by simp [Value.oneCell', encStr]) (by simp only [maxLen]; omega) (by omega) ?_; intro g8 c8 w8 hc8 ht8; have HT8 := Lib.hid ht8; clear ht8)))
                go_roundw
                case rel =>
                  refine ⟨i + 1, m + 1 + 1, true, o ++ [(k, t)] ++ [((s', m'), q)], _, _, by simp, rfl, rfl, by omega, by omega, by rw [List.length_append, List.length_append, HM.out]; rfl, ?_, ?_⟩
                  · rw [HO.out, if_neg (by decide), if_pos rfl, HD.out, rins, if_pos HBF.out]
                    simp
                  · rw [← tcs_snoc]
                    exact (HC.out.at10 HT8.out).dropL
                case measure => simp [intOf]; omega
              | false =>
                have HBF := Lib.hid hbf
                clear hbf
                go_wp2_with (first
                  | (go_at_call 119; (with_reducible refine (before_any k (s', m') _).mono ?_); rintro r w5 ⟨rfl, hc5⟩; rw [HBF.out]; have HB := Lib.hid (HA.out.kept hc5); clear hc5; have x0 : w5.cell? ⟨wr.heap.size, 0, none⟩ = some (encStr s') := HB.out.b0.cell 0; have x1 : w5.cell? ⟨wr.heap.size, 1, none⟩ = some (.int .i64 m') := HB.out.b0.cell 1; have x2 : w5.cell? ⟨wr.heap.size, 2, none⟩ = some (.int .i64 q) := HB.out.b0.cell 2; have y0 : w5.cell? ⟨w.heap.size, 0, none⟩ = some (encStr k.1) := HB.out.b110.cell 0; have y1 : w5.cell? ⟨w.heap.size, 1, none⟩ = some (.int .i64 k.2) := HB.out.b110.cell 1)
                  | ((at_builtin; refine wpList_app1 _ rfl (.tmp 60) (.tmp 62) 96 rfl 178 ij (.agg #[.string ByteArray.empty, .int .i64 0, .int .i64 0]) 3 32 Try.underlying96 hij hzaj hzbj hzcj rfl (by decide) (.slice A' m c') m ((tcs o).flatten) rfl _ _ _ rfl (by first | rfl | simp) HB.out.n10 rfl (by simp [Value.oneCell', encStr]) (by simp only [maxLen]; omega) (by omega) ?_; intro g4 c4 w4 hc4 ht4; have HT4 := Lib.hid ht4; clear ht4)))
                go_roundw
                case rel =>
                  refine ⟨i + 1, m + 1, false, o ++ [((s', m'), q)], _, _, by simp, rfl, rfl, by omega, by omega, by rw [List.length_append, HM.out]; rfl, ?_, ?_⟩
                  · rw [HO.out, if_neg (by decide), if_neg (by decide), HD.out, rins, if_neg (by rw [HBF.out]; decide)]
                    simp
                  · rw [← tcs_snoc]
                    exact (HB.out.at10 HT4.out).dropL
                case measure => simp [intOf]; omega
          · have hd2 : decide ((i : Int) < (n : Int)) = false := by simp; omega
            have hd3 : decide (i < n) = false := by simp; omega
            obtain rfl : i = n := by omega
            have hnil : l.drop i = [] := List.drop_eq_nil_of_le (by rw [HN.out]; exact Nat.le_refl _)
            rw [hnil] at HO
            have y0 : wr.cell? ⟨w.heap.size, 0, none⟩ = some (encStr k.1) := HT.out.b10.cell 0
            have y1 : wr.cell? ⟨w.heap.size, 1, none⟩ = some (.int .i64 k.2) := HT.out.b10.cell 1
            cases ld with
            | true =>
              rw [if_pos rfl, List.append_nil] at HO
              go_wp2_with fail
              go_ret
              refine ⟨by rw [HE.out]; rfl, .slice A' m c', ?_⟩
              rw [HL.out, HO.out]
              have h := HT.out
              rw [← HM.out] at h ⊢
              exact rO_swap h.flip.dropL
            | false =>
              rw [if_neg (by decide)] at HO
              go_wp2_with (first
                | ((at_builtin; refine wpList_app1 _ rfl (.tmp 67) (.tmp 71) 96 rfl 178 ij (.agg #[.string ByteArray.empty, .int .i64 0, .int .i64 0]) 3 32 Try.underlying96 hij hzaj hzbj hzcj rfl (by decide) (.slice A' m c') m ((tcs o).flatten) rfl _ _ _ rfl (by first | rfl | simp) HT.out.now.1 rfl (by simp [Value.oneCell', encStr]) (by simp only [maxLen]; omega) (by omega) ?_; intro g4 c4 w4 hc4 ht4; have HT4 := Lib.hid ht4; clear ht4); have HC : Hid (Turns w w4 (rO g (.slice A i c) l) (Hp.Own.both (Hp.Own.row 178 3 (.slice (some ⟨g4, 0, none⟩) (m + 1) c4) (m + 1) (tcs (o ++ [(k, t)])).flatten) (Hp.Own.both (Hp.Own.blk w.heap.size #[encStr k.1, .int .i64 k.2] 171) (rO g (.slice A i c) l)))) := Lib.hid (by (rw [← tcs_snoc]; exact HT.out.at0 HT4.out)); have z0 := (rO_cell HC.out.n11).1; have z0f := (rO_cell HC.out.n11).2.1; have zg := (rO_cell HC.out.n11).2.2))
              go_ret
              refine ⟨by rw [HE.out]; rfl, .slice (some ⟨g4, 0, none⟩) (m + 1) c4, ?_⟩
              rw [HL.out, HO.out, rins]
              have h := HC.out
              rw [show m + 1 = (o ++ [(k, t)]).length by rw [List.length_append, HM.out]; rfl] at h ⊢
              exact rO_swap h.flip.dropL
end Go.Proofs.Ytmpkjfengfgagaa.Tf
