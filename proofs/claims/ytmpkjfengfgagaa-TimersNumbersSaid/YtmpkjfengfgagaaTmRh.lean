/- The document's own table of timers: Cancel, Tick. -/
import Derived.Test.YtmpkjfengfgagaaTmRg
namespace Go.Proofs.Ytmpkjfengfgagaa.Tf
open Go.RowKit Go.Hp
attribute [local go_sem] min2_lean min_two max2_lean max_two
set_option linter.unusedSimpArgs false
set_option linter.unusedVariables false
set_option maxRecDepth 100000
theorem assoc {w W : World} {O A B X : Hp.Own} (h : Turns w W O (Hp.Own.both (Hp.Own.both A B) X)) : Turns w W O (Hp.Own.both A (Hp.Own.both B X)) :=
  ⟨h.chg, ⟨h.now.1.1, ⟨h.now.1.2.1, h.now.2.1, fun b h1 h2 => h.now.2.2 b (Or.inr h1) h2⟩, fun b h1 h2 => h2.elim (h.now.1.2.2 b h1) (h.now.2.2 b (Or.inl h1))⟩, fun b hb => h.near b (by
    rcases hb with hb | hb | hb
    · exact Or.inl (Or.inl hb)
    · exact Or.inl (Or.inr hb)
    · exact Or.inr hb)⟩
/-- A new list is hung into the table. -/
theorem rO_swap {w W : World} {O : Hp.Own} {g : Nat} {v v' : Value} {l l' : Rt} (h : Turns w W O (Hp.Own.both (Hp.Own.row 178 3 v' l'.length (tcs l').flatten) (rO g v l))) : Turns w (W.setCell ⟨g, 0, none⟩ v') O (rO g v' l') := by
  have h1 := h.flip.put0 0 v'
  exact (h1.at1 (Turns.refl h1.n1).swap).drop1
def rcancel (l : Rt) (k : Nm) : Rt := match plc l k with
  | some i => l.eraseIdx i
  | none => l
theorem take_erase {α : Type} (l : List α) (p i : Nat) (x : α) (hx : l[i]? = some x) : (l.take (i + 1)).eraseIdx p = if i = p then (l.take i).eraseIdx p else (l.take i).eraseIdx p ++ [x] := by
  have hi := (List.getElem?_eq_some_iff.1 hx).1
  have hl : (l.take i).length = i := by rw [List.length_take]; omega
  rw [List.take_add_one, hx]
  show (l.take i ++ [x]).eraseIdx p = _
  rw [List.eraseIdx_append, hl]
  by_cases h : i = p
  · subst h
    rw [if_neg (Nat.lt_irrefl _), if_pos rfl, Nat.sub_self, List.eraseIdx_of_length_le (l := l.take i) (by omega)]
    simp [List.eraseIdx]
  · rw [if_neg h]
    by_cases h2 : p < i
    · rw [if_pos h2]
    · rw [if_neg h2, List.eraseIdx_of_length_le (l := l.take i) (by omega), List.eraseIdx_of_length_le (l := [x]) (by simp; omega)]
set_option maxHeartbeats 1000000 in
theorem cancel_any (g : Nat) (v : Value) (l : Rt) (k : Nm) (w : World) (h : (rO g v l).holds w) (hl : l.length ≤ 1000000) :
    Calls Try.prog 91 #[.pointer (some ⟨g, 0, none⟩), .agg #[encStr k.1, .int .i64 k.2]] w fun e w' => e = .returned (.bool (plc l k).isSome) ∧ ∃ v', Turns w w' (rO g v l) (rO g v' (rcancel l k)) := by
  obtain ⟨ij, hij, hzaj, hzbj, hzcj⟩ := info_parts Try.info178
  obtain ⟨A, c, rfl⟩ := row_slice (rO_row h)
  have H1 := Lib.hid ((Turns.refl h).push #[encStr k.1, .int .i64 k.2] 171)
  have HP := Lib.hid (place_any g _ l k _ H1.out.n1 hl)
  have h0 := (rO_cell h).1
  have hg := (rO_cell h).2.2
  obtain ⟨n, hn⟩ : ∃ n, l.length = n := ⟨_, rfl⟩
  rw [hn] at h0 H1 hl ⊢
  have HN := Lib.hid hn
  clear h hn
  cases hp : plc l k with
  | none =>
    have HR : Hid (rcancel l k = l) := Lib.hid (by simp [rcancel, hp])
    have hpi := Lib.hid (plI_none hp)
    clear hp
    go_enter Try.func91, Try.ntmps91
    go_wp2_with (first
      | (go_at_call 118; (with_reducible refine HP.out.mono ?_); rintro r w1 ⟨rfl, hc1⟩; rw [hpi.out]; have HC1 := Lib.hid (H1.out.kept hc1); clear hc1))
    go_ret
    refine ⟨rfl, .slice A n c, ?_⟩
    rw [HR.out]
    exact HC1.out.dropL
  | some p =>
    obtain ⟨q0, hq⟩ := plc_lt hp
    have HR : Hid (rcancel l k = l.eraseIdx p) := Lib.hid (by simp [rcancel, hp])
    have hpi := Lib.hid (plI_some hp)
    have hpl : p < n := by have := (List.getElem?_eq_some_iff.1 hq).1; have := HN.out; omega
    have hd : decide ((p : Int) < 0) = false := by simp
    have hd1 : decide (0 ≤ (p : Int)) = true := by simp
    clear hp hq
    go_enter Try.func91, Try.ntmps91
    go_wp2_with (first
      | (go_at_call 118; (with_reducible refine HP.out.mono ?_); rintro r w1 ⟨rfl, hc1⟩; rw [hpi.out]; have HT1 := Lib.hid (H1.out.kept hc1).dropL; clear hc1; have h1 := (rO_cell HT1.out.now).1; have hg1 := (rO_cell HT1.out.now).2.2))
    have HT0 : Turns w1 w1 Hp.Own.emp (Hp.Own.row 178 3 (.slice none 0 0) 0 []) := ⟨Chg.refl _ _, World.ownsRow_nil _ _ _ _, fun b hb => by cases hb⟩
    go_loopw [6, 19] (fun x6 x19 wr => ∃ (i m : Nat) (A' : Option Addr) (c' : Nat), x19 = .int .i64 i ∧ x6 = .slice A' m c' ∧ i ≤ n ∧ m ≤ i ∧ ((l.take i).eraseIdx p).length = m ∧ Turns w1 wr Hp.Own.emp (Hp.Own.row 178 3 (.slice A' m c') m (tcs ((l.take i).eraseIdx p)).flatten)) (fun _ x19 _ => n - (intOf x19).toNat)
    case atStart => exact ⟨0, 0, none, 0, rfl, rfl, Nat.zero_le _, Nat.le_refl _, rfl, HT0⟩
    case round =>
      obtain ⟨i, m, A', c', rfl, rfl, hi, hmi, hm, ht⟩ := hrel
      have HT := Lib.hid ht
      have H2 := Lib.hid (HT1.out.kept ht.chg)
      have HM := Lib.hid hm
      clear ht hm h1 hg1 HT0
      have h0 := (rO_cell H2.out.now).1
      have h0f := (rO_cell H2.out.now).2.1
      have hg := (rO_cell H2.out.now).2.2
      by_cases hlt : i < n
      · have hd2 : decide ((i : Int) < (n : Int)) = true := by simp; omega
        have hd3 : decide (i < n) = true := by simp; omega
        obtain ⟨x, hx⟩ : ∃ x, l[i]? = some x := ⟨_, List.getElem?_eq_getElem (by have := HN.out; omega)⟩
        obtain ⟨b, rfl, hb, hbg, c0, c1, c2, c2f⟩ := rO_at H2.out.now hx
        have HE := Lib.hid (take_erase l p i x hx)
        clear hx
        obtain ⟨⟨s', m'⟩, q⟩ := x
        have HA := Lib.hid (HT.out.kept ((Chg.refl _ _).alloc (.cells #[encStr s', .int .i64 m', .int .i64 q] 178)))
        by_cases hip : i = p
        · subst hip
          rw [if_pos rfl] at HE
          go_wp2_with fail
          go_roundw
          case rel =>
            refine ⟨i + 1, m, _, _, by simp, rfl, by omega, by omega, by rw [HE.out]; exact HM.out, ?_⟩
            rw [HE.out]
            exact HA.out
          case measure => simp [intOf]; omega
        · have hd4 : ((i : Int) == (p : Int)) = false := by simp; omega
          have hd5 : ¬ (i : Int) = p := by omega
          go_wp2_with (first
            | ((at_builtin; refine wpList_app1 _ rfl (.tmp 27) (.tmp 29) 96 rfl 178 ij (.agg #[.string ByteArray.empty, .int .i64 0, .int .i64 0]) 3 32 Try.underlying96 hij hzaj hzbj hzcj rfl (by decide) (.slice A' m c') m ((tcs ((l.take i).eraseIdx p)).flatten) rfl _ _ _ rfl (by first | rfl | simp) HA.out.now rfl (by simp [Value.oneCell', encStr]) (by simp only [maxLen]; omega) (by omega) ?_; intro g4 c4 w4 hc4 ht4; have HT4 := Lib.hid ht4; clear ht4)))
          go_roundw
          case rel =>
            rw [if_neg hip] at HE
            refine ⟨i + 1, m + 1, _, _, by simp, rfl, by omega, by omega, by rw [HE.out, List.length_append, HM.out]; rfl, ?_⟩
            rw [HE.out, ← tcs_snoc]
            exact HA.out.trans HT4.out
          case measure => simp [intOf]; omega
      · have hd2 : decide ((i : Int) < (n : Int)) = false := by simp; omega
        have hd3 : decide (i < n) = false := by simp; omega
        obtain rfl : i = n := by omega
        go_wp2_with fail
        go_ret
        refine ⟨rfl, .slice A' m c', ?_⟩
        rw [HR.out]
        refine (HT1.out.trans (rO_swap ((Turns.refl HT1.out.now).pushT ?_)))
        have h := HT.out
        rw [List.take_of_length_le (by rw [HN.out]; exact Nat.le_refl _)] at h
        have hm := HM.out
        rw [List.take_of_length_le (by rw [HN.out]; exact Nat.le_refl _)] at hm
        rw [hm]
        exact h
def dec (x : Nm × Int) : Nm × Int := (x.1, x.2 - 1)
def rtickL (l : Rt) : Rt := (l.map dec).filter (fun x => !decide (x.2 = 0))
def rtold (l : Rt) : List Nm := nms ((l.map dec).filter (fun x => decide (x.2 = 0)))
theorem rtick_snoc (l : Rt) (k : Nm) (q : Int) : rtickL (l ++ [(k, q)]) = if q - 1 = 0 then rtickL l else rtickL l ++ [(k, q - 1)] := by
  unfold rtickL
  rw [List.map_append, List.filter_append]
  by_cases h : q - 1 = 0
  · rw [if_pos h]
    simp [dec, h]
  · rw [if_neg h]
    simp [dec, h]
theorem rtold_snoc (l : Rt) (k : Nm) (q : Int) : rtold (l ++ [(k, q)]) = if q - 1 = 0 then rtold l ++ [k] else rtold l := by
  unfold rtold nms
  rw [List.map_append, List.filter_append]
  by_cases h : q - 1 = 0
  · rw [if_pos h]
    simp [dec, h]
  · rw [if_neg h]
    simp [dec, h]
set_option maxHeartbeats 1000000 in
theorem tick_any (g : Nat) (v : Value) (l : Rt) (w : World) (h : (rO g v l).holds w) (hl : l.length ≤ 1000000) (hq : ∀ x ∈ l, 1 ≤ x.2 ∧ x.2 ≤ 1024) :
    Calls Try.prog 94 #[.pointer (some ⟨g, 0, none⟩)] w fun e w' => ∃ vt v', e = .returned vt ∧ Turns w w' (rO g v l) (Hp.Own.both (Hp.Own.row 171 2 vt (rtold l).length (kcs (rtold l)).flatten) (rO g v' (rtickL l))) := by
  obtain ⟨ij, hij, hzaj, hzbj, hzcj⟩ := info_parts Try.info171
  obtain ⟨is, his, hzas, hzbs, hzcs⟩ := info_parts Try.info178
  obtain ⟨A, c, rfl⟩ := row_slice (rO_row h)
  obtain ⟨n, hn⟩ : ∃ n, l.length = n := ⟨_, rfl⟩
  have H0 := Lib.hid (Turns.refl h)
  rw [hn] at H0 hl ⊢
  have h0 := (rO_cell H0.out.now).1
  have hg := (rO_cell H0.out.now).2.2
  have HN := Lib.hid hn
  have HQ := Lib.hid hq
  clear h hn hq
  have HT0 : Turns w w Hp.Own.emp (Hp.Own.both (Hp.Own.row 171 2 (.slice none 0 0) 0 []) (Hp.Own.row 178 3 (.slice none 0 0) 0 [])) :=
    ⟨Chg.refl _ _, ⟨World.ownsRow_nil _ _ _ _, World.ownsRow_nil _ _ _ _, fun b hb => by cases hb⟩, fun b hb => by rcases hb with hb | hb <;> cases hb⟩
  go_enter Try.func94, Try.ntmps94
  go_wp2_with fail
  go_loopw [3, 4, 12] (fun x3 x4 x12 wr => ∃ (i a b : Nat) (A1 A2 : Option Addr) (c1 c2 : Nat), x12 = .int .i64 i ∧ x3 = .slice A1 a c1 ∧ x4 = .slice A2 b c2 ∧ i ≤ n ∧ a ≤ i ∧ b ≤ i ∧ (rtold (l.take i)).length = a ∧ (rtickL (l.take i)).length = b ∧
    Turns w wr Hp.Own.emp (Hp.Own.both (Hp.Own.row 171 2 (.slice A1 a c1) a (kcs (rtold (l.take i))).flatten) (Hp.Own.row 178 3 (.slice A2 b c2) b (tcs (rtickL (l.take i))).flatten))) (fun _ _ x12 _ => n - (intOf x12).toNat)
  case atStart => exact ⟨0, 0, 0, none, none, 0, 0, rfl, rfl, rfl, Nat.zero_le _, Nat.le_refl _, Nat.le_refl _, rfl, rfl, HT0⟩
  case round =>
    obtain ⟨i, a, b, A1, A2, c1, c2, rfl, rfl, rfl, hi, hai, hbi, ha, hb, ht⟩ := hrel
    have HT := Lib.hid ht
    have H2 := Lib.hid (H0.out.kept ht.chg)
    have HAL := Lib.hid ha
    have HBL := Lib.hid hb
    clear ht ha hb h0 hg HT0
    have h0 := (rO_cell H2.out.now).1
    have h0f := (rO_cell H2.out.now).2.1
    have hg := (rO_cell H2.out.now).2.2
    by_cases hlt : i < n
    · have hd2 : decide ((i : Int) < (n : Int)) = true := by simp; omega
      have hd3 : decide (i < n) = true := by simp; omega
      obtain ⟨x, hx⟩ : ∃ x, l[i]? = some x := ⟨_, List.getElem?_eq_getElem (by have := HN.out; omega)⟩
      obtain ⟨b', rfl, hb', hbg, d0, d1, d2, d2f⟩ := rO_at H2.out.now hx
      obtain ⟨hq1, hq2⟩ := HQ.out x (List.mem_of_getElem? hx)
      obtain ⟨⟨s', m'⟩, q⟩ := x
      have HE : Hid (l.take (i + 1) = l.take i ++ [((s', m'), q)]) := Lib.hid (by rw [List.take_add_one, hx]; rfl)
      clear hx
      have hq1 : 1 ≤ q := hq1
      have hq2 : q ≤ 1024 := hq2
      by_cases hz : q = 1
      · subst hz
        have HA := Lib.hid (HT.out.kept ((Chg.refl _ _).alloc (.cells #[encStr s', .int .i64 m', .int .i64 0] 178)))
        go_wp2_with (first
          | ((at_builtin; refine wpList_app1 _ rfl (.tmp 23) (.tmp 26) 129 rfl 171 ij (.agg #[.string ByteArray.empty, .int .i64 0]) 2 24 Try.underlying129 hij hzaj hzbj hzcj rfl (by decide) (.slice A1 a c1) a ((kcs (rtold (l.take i))).flatten) rfl _ _ _ rfl (by first | rfl | simp) HA.out.now.1 rfl (by simp [Value.oneCell', encStr]) (by simp only [maxLen]; omega) (by omega) ?_; intro g4 c4 w4 hc4 ht4; have HT4 := Lib.hid ht4; clear ht4)))
        go_roundw
        case rel =>
          refine ⟨i + 1, a + 1, b, _, _, _, _, by simp, rfl, rfl, by omega, by omega, by omega, by rw [HE.out, rtold_snoc, if_pos (by omega), List.length_append, HAL.out]; rfl, by rw [HE.out, rtick_snoc, if_pos (by omega)]; exact HBL.out, ?_⟩
          rw [HE.out, rtold_snoc, rtick_snoc, if_pos (by omega), if_pos (by omega), ← kcs_snoc]
          exact HA.out.trans (Turns.left HA.out.now HT4.out)
        case measure => simp [intOf]; omega
      · have hz' : ((q - 1 : Int) == 0) = false := by simp; omega
        have hz2 : ¬ (q - 1 = 0) := by omega
        have HA := Lib.hid (HT.out.kept ((Chg.refl _ _).alloc (.cells #[encStr s', .int .i64 m', .int .i64 (q - 1)] 178)))
        go_wp2_with (first
          | ((at_builtin; refine wpList_app1 _ rfl (.tmp 28) (.tmp 30) 96 rfl 178 is (.agg #[.string ByteArray.empty, .int .i64 0, .int .i64 0]) 3 32 Try.underlying96 his hzas hzbs hzcs rfl (by decide) (.slice A2 b c2) b ((tcs (rtickL (l.take i))).flatten) rfl _ _ _ rfl (by first | rfl | simp) HA.out.now.2.1 rfl (by simp [Value.oneCell', encStr]) (by simp only [maxLen]; omega) (by omega) ?_; intro g4 c4 w4 hc4 ht4; have HT4 := Lib.hid ht4; clear ht4)))
        go_roundw
        case rel =>
          refine ⟨i + 1, a, b + 1, _, _, _, _, by simp, rfl, rfl, by omega, by omega, by omega, by rw [HE.out, rtold_snoc, if_neg hz2]; exact HAL.out, by rw [HE.out, rtick_snoc, if_neg hz2, List.length_append, HBL.out]; rfl, ?_⟩
          rw [HE.out, rtold_snoc, rtick_snoc, if_neg hz2, if_neg hz2, ← tcs_snoc]
          exact HA.out.at1 HT4.out
        case measure => simp [intOf]; omega
    · have hd2 : decide ((i : Int) < (n : Int)) = false := by simp; omega
      have hd3 : decide (i < n) = false := by simp; omega
      obtain rfl : i = n := by omega
      go_wp2_with fail
      go_ret
      have ht := HT.out
      have ha := HAL.out
      have hb := HBL.out
      rw [List.take_of_length_le (by rw [HN.out]; exact Nat.le_refl _)] at ht ha hb
      refine ⟨_, .slice A2 b c2, rfl, ?_⟩
      rw [ha]
      rw [← hb] at ht ⊢
      have h1 := assoc (H0.out.pushT ht)
      exact h1.at1 (rO_swap (Turns.refl h1.n1))
end Go.Proofs.Ytmpkjfengfgagaa.Tf
