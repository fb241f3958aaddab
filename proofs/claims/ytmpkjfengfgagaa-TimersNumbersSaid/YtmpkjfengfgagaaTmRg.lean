/- The document's own table of timers: Left, Armed, Clone. -/
import Derived.Test.YtmpkjfengfgagaaTmRf
namespace Go.Proofs.Ytmpkjfengfgagaa.Tf
open Go.RowKit Go.Hp
attribute [local go_sem] min2_lean min_two max2_lean max_two
set_option linter.unusedSimpArgs false
set_option linter.unusedVariables false
set_option maxRecDepth 100000
theorem plI_none {l : Rt} {k : Nm} (h : plc l k = none) : plI l k = -1 := by simp [plI, h]
theorem plI_some {l : Rt} {k : Nm} {i : Nat} (h : plc l k = some i) : plI l k = (i : Int) := by simp [plI, h]
theorem plc_lt {l : Rt} {k : Nm} {i : Nat} (h : plc l k = some i) : ∃ x, l[i]? = some (k, x) := by
  unfold plc at h
  obtain ⟨hi, h1, _⟩ := List.findIdx?_eq_some_iff_getElem.1 h
  refine ⟨(l[i]).2, ?_⟩
  rw [List.getElem?_eq_getElem hi]
  have : l[i].1 = k := by simpa using h1
  rw [← this]
def rleft (l : Rt) (k : Nm) : Int × Bool := match plc l k with
  | some i => (((l[i]?).map (·.2)).getD 0, true)
  | none => (0, false)
theorem left_any (g : Nat) (v : Value) (l : Rt) (k : Nm) (w : World) (h : (rO g v l).holds w) (hl : l.length ≤ 1000000) :
    Calls Try.prog 95 #[.pointer (some ⟨g, 0, none⟩), .agg #[encStr k.1, .int .i64 k.2]] w fun e w' => e = .returned (.tuple #[.int .i64 (rleft l k).1, .bool (rleft l k).2]) ∧ Chg (fun _ => False) w w' := by
  obtain ⟨A, c, rfl⟩ := row_slice (rO_row h)
  have H1 := Lib.hid ((Turns.refl h).push #[encStr k.1, .int .i64 k.2] 171)
  have HP := Lib.hid (place_any g _ l k _ H1.out.n1 hl)
  have h0 := (rO_cell h).1
  have hg := (rO_cell h).2.2
  cases hp : plc l k with
  | none =>
    have HR : Hid (rleft l k = (0, false)) := Lib.hid (by simp [rleft, hp])
    have hpi := Lib.hid (plI_none hp)
    clear h hp
    go_enter Try.func95, Try.ntmps95
    go_wp2_with (first
      | (go_at_call 118; (with_reducible refine HP.out.mono ?_); rintro r w1 ⟨rfl, hc1⟩; rw [hpi.out]; have HC1 := Lib.hid hc1; clear hc1))
    rw [HR.out]
    exact bodyPost_ret (v := .tuple #[.int .i64 0, .bool false]) (by simp [results, Try.results95, go_sem, *]) rfl ⟨rfl, ((Chg.refl _ _).alloc _).trans HC1.out⟩
  | some i =>
    obtain ⟨q, hq⟩ := plc_lt hp
    have HR : Hid (rleft l k = (q, true)) := Lib.hid (by simp [rleft, hp, hq])
    have hpi := Lib.hid (plI_some hp)
    have HQ := Lib.hid hq
    have hd : decide (0 ≤ (i : Int)) = true := by simp
    have hil : i < l.length := (List.getElem?_eq_some_iff.1 hq).1
    have HIL := Lib.hid hil
    obtain ⟨n, hn⟩ : ∃ n, l.length = n := ⟨_, rfl⟩
    rw [hn] at hil h0 H1 hl
    have HN := Lib.hid hn
    clear h hp hq hn
    go_enter Try.func95, Try.ntmps95
    go_wp2_with (first
      | (go_at_call 118; (with_reducible refine HP.out.mono ?_); rintro r w1 ⟨rfl, hc1⟩; rw [hpi.out]; have HT1 := Lib.hid (H1.out.kept hc1); have HC1 := Lib.hid hc1; clear hc1; have h1 := (rO_cell HT1.out.n1).1; obtain ⟨b, rfl, hb, hbg, c0, c1, c2, c2f⟩ := rO_at HT1.out.n1 HQ.out))
    rw [HR.out]
    exact bodyPost_ret (v := .tuple #[.int .i64 q, .bool true]) (by simp [results, Try.results95, go_sem, *]) rfl ⟨rfl, ((Chg.refl _ _).alloc _).trans HC1.out⟩
set_option maxHeartbeats 1000000 in
theorem clone_any (g : Nat) (v : Value) (l : Rt) (w : World) (h : (rO g v l).holds w) (hl : l.length ≤ 1000000) :
    Calls Try.prog 103 #[.pointer (some ⟨g, 0, none⟩)] w fun e w' => ∃ g' v', e = .returned (.pointer (some ⟨g', 0, none⟩)) ∧ Turns w w' Hp.Own.emp (rO g' v' l) := by
  obtain ⟨ij, hij, hzaj, hzbj, hzcj⟩ := info_parts Try.info178
  obtain ⟨A, c, rfl⟩ := row_slice (rO_row h)
  obtain ⟨n, hn⟩ : ∃ n, l.length = n := ⟨_, rfl⟩
  have H1 := Lib.hid ((Turns.refl h).push #[.slice none 0 0] 98)
  have hb := Blk.new w #[.slice none 0 0] 98
  rw [hn] at H1 hl
  have h0 := (rO_cell H1.out.n1).1
  have hg := (rO_cell H1.out.n1).2.2
  have b0 : (w.alloc (.cells #[.slice none 0 0] 98)).cell? ⟨w.heap.size, 0, none⟩ = some (.slice none 0 0) := hb.cell 0
  have HN := Lib.hid hn
  clear h hn hb
  have HSR := Lib.hid (Src.of_own (rO_row H1.out.n1))
  rw [HN.out] at HSR
  go_enter Try.func103, Try.ntmps103
  go_wp2_with fail
  go_region_law (first
    | ((refine step_copyM _ rfl (.tmp 10) (.tmp 14) 96 rfl 178 ij (.agg #[.string ByteArray.empty, .int .i64 0, .int .i64 0]) 3 32 Try.underlying96 hij hzaj hzbj hzcj rfl (by decide) rfl (.slice A n c) n ((tcs l).flatten) rfl HSR.out (tcs_one l) (by simp only [maxLen]; omega) (by omega) ?_; intro A4 c4 w4 ht4; have HT4 := Lib.hid ht4; clear ht4); have HT5 : Hid (Turns w w4 Hp.Own.emp (Hp.Own.both (Hp.Own.blk w.heap.size #[.slice none 0 0] 98) (Hp.Own.row 178 3 (.slice A4 n c4) n (tcs l).flatten))) := Lib.hid ((Turns.blk_new w #[.slice none 0 0] 98).pushT HT4.out.drewl).swap; have f4 : w4.frozen? ⟨w.heap.size, 0, none⟩ = false := Blk.frozen HT5.out.b0 0; have l4 : w.heap.size < w4.heap.size := Blk.lt HT5.out.b0; have d4 : w4.cell? ⟨w.heap.size, 0, none⟩ = some (.slice none 0 0) := HT5.out.b0.cell 0))
  all_goals
    have HF := Lib.hid (HT5.out.put0 0 (.slice A4 n c4))
    go_wp2_with fail
    go_ret
    refine ⟨_, .slice A4 n c4, rfl, ?_⟩
    unfold rO
    rw [HN.out]
    exact HF.out
theorem armed_any (g : Nat) (v : Value) (l : Rt) (w : World) (h : (rO g v l).holds w) (hl : l.length ≤ 1000000) :
    Calls Try.prog 63 #[.pointer (some ⟨g, 0, none⟩)] w fun e w' => ∃ v', e = .returned v' ∧ Turns w w' Hp.Own.emp (Hp.Own.row 171 2 v' l.length (kcs (nms l)).flatten) := by
  obtain ⟨ij, hij, hzaj, hzbj, hzcj⟩ := info_parts Try.info171
  obtain ⟨A, c, rfl⟩ := row_slice (rO_row h)
  obtain ⟨n, hn⟩ : ∃ n, l.length = n := ⟨_, rfl⟩
  have H0 := Lib.hid (Turns.refl h)
  rw [hn] at H0 hl ⊢
  have h0 := (rO_cell H0.out.now).1
  have hg := (rO_cell H0.out.now).2.2
  have HN := Lib.hid hn
  clear h hn
  go_enter Try.func63, Try.ntmps63
  have HT0 : Turns w w Hp.Own.emp (Hp.Own.row 171 2 (.slice none 0 0) 0 []) := ⟨Chg.refl _ _, World.ownsRow_nil _ _ _ _, fun b hb => by cases hb⟩
  go_wp2_with fail
  go_loopw [3, 11] (fun x3 x11 wr => ∃ (i : Nat) (A' : Option Addr) (c' : Nat), x11 = .int .i64 i ∧ x3 = .slice A' i c' ∧ i ≤ n ∧ Turns w wr Hp.Own.emp (Hp.Own.row 171 2 (.slice A' i c') i (kcs (nms (l.take i))).flatten)) (fun _ x11 _ => n - (intOf x11).toNat)
  case atStart => exact ⟨0, none, 0, rfl, rfl, Nat.zero_le _, HT0⟩
  case round =>
    obtain ⟨i, A', c', rfl, rfl, hi, ht⟩ := hrel
    have HT := Lib.hid ht
    have H2 := Lib.hid (H0.out.kept ht.chg)
    clear ht h0 hg
    have h0 := (rO_cell H2.out.now).1
    have hg := (rO_cell H2.out.now).2.2
    by_cases hlt : i < n
    · have hd : decide ((i : Int) < (n : Int)) = true := by simp; omega
      have hd' : decide (i < n) = true := by simp; omega
      obtain ⟨x, hx⟩ : ∃ x, l[i]? = some x := ⟨_, List.getElem?_eq_getElem (by have := HN.out; omega)⟩
      obtain ⟨b, rfl, hb, hbg, c0, c1, c2, c2f⟩ := rO_at H2.out.now hx
      have HX := Lib.hid hx
      clear hx
      obtain ⟨⟨s', m'⟩, q⟩ := x
      have HA := Lib.hid (HT.out.kept ((Chg.refl _ _).alloc (.cells #[encStr s', .int .i64 m', .int .i64 q] 178)))
      go_wp2_with (first
        | ((at_builtin; refine wpList_app1 _ rfl (.tmp 15) (.tmp 18) 129 rfl 171 ij (.agg #[.string ByteArray.empty, .int .i64 0]) 2 24 Try.underlying129 hij hzaj hzbj hzcj rfl (by decide) (.slice A' i c') i ((kcs (nms (l.take i))).flatten) rfl _ _ _ rfl (by first | rfl | simp) HA.out.now rfl (by simp [Value.oneCell', encStr]) (by simp only [maxLen]; omega) (by omega) ?_; intro g4 c4 w4 hc4 ht4; have HT4 := Lib.hid ht4; clear ht4)))
      go_roundw
      case rel =>
        refine ⟨i + 1, _, _, by simp, rfl, by omega, ?_⟩
        have h := HA.out.trans HT4.out
        rw [show l.take (i + 1) = l.take i ++ [((s', m'), q)] by rw [List.take_add_one, HX.out]; rfl]
        rw [show nms (l.take i ++ [((s', m'), q)]) = nms (l.take i) ++ [(s', m')] by simp [nms], ← kcs_snoc]
        exact h
      case measure => simp [intOf]; omega
    · have hd : decide ((i : Int) < (n : Int)) = false := by simp; omega
      have hd' : decide (i < n) = false := by simp; omega
      obtain rfl : i = n := by omega
      go_wp2_with fail
      go_ret
      refine ⟨_, rfl, ?_⟩
      have h := HT.out
      rw [List.take_of_length_le (by rw [HN.out]; exact Nat.le_refl _)] at h
      exact h
end Go.Proofs.Ytmpkjfengfgagaa.Tf
