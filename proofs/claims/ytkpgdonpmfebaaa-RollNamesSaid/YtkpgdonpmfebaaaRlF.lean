/- Package roll: Set. -/
import Derived.Test.YtkpgdonpmfebaaaRlE
namespace Go.Proofs.Ytkpgdonpmfebaaa.Rl
open Go.RowKit Go.Hp
attribute [local go_sem] min2_lean min_two max2_lean max_two
set_option linter.unusedSimpArgs false
set_option linter.unusedVariables false
set_option maxRecDepth 100000
def RlS.put (s : RlS) (k : Nat) (r : RwA) (v : Value) : RlS := ⟨s.g, fun j => if j = k then true else s.is j, fun j => if j = k then r else s.row j, fun j => if j = k then v else s.v j⟩
theorem RlS.put_cells (s : RlS) (k : Nat) (hk : k < 8) (r : RwA) (v : Value) : (s.put k r v).cells = (((((s.cells.setIfInBounds (k * 6) (.bool true)).setIfInBounds (k * 6 + 1) (.int .i64 r.num)).setIfInBounds (k * 6 + 2) (.int .i64 r.at_)).setIfInBounds (k * 6 + 3) (.int .i64 r.code)).setIfInBounds (k * 6 + 4) (.int .i64 r.n)).setIfInBounds (k * 6 + 5) v := by
  rcases (show k = 0 ∨ k = 1 ∨ k = 2 ∨ k = 3 ∨ k = 4 ∨ k = 5 ∨ k = 6 ∨ k = 7 by omega) with rfl | rfl | rfl | rfl | rfl | rfl | rfl | rfl <;> simp [RlS.cells, RlS.put, plc]
def put6 (w : World) (g k : Nat) (r : RwA) (v : Value) : World := (((((w.setCell ⟨g, k * 6, none⟩ (.bool true)).setCell ⟨g, k * 6 + 1, none⟩ (.int .i64 r.num)).setCell ⟨g, k * 6 + 2, none⟩ (.int .i64 r.at_)).setCell ⟨g, k * 6 + 3, none⟩ (.int .i64 r.code)).setCell ⟨g, k * 6 + 4, none⟩ (.int .i64 r.n)).setCell ⟨g, k * 6 + 5, none⟩ v
theorem set_turn {s : RlS} {w w1 : World} {v : Value} {r : RwA} (hs : s.own.holds w) (ht : Turns w w1 Hp.Own.emp (irow v r.its)) {k : Nat} (hk : k < 8) : Turns w (put6 w1 s.g k r v) s.own (s.put k r v).own := by
  have t1 : Turns w w1 s.own (Hp.Own.both (irow v r.its) s.own) := ⟨ht.chg.mono fun _ _ hf => hf.elim, ⟨ht.now, Own.chg hs ht.chg (fun _ _ hf => hf), fun b h1 h2 => (ht.near b h1).elim (fun hf => hf) (fun hge => by have := s.own.lt hs b h2; omega)⟩,
    fun b hb => hb.elim (fun h1 => (ht.near b h1).elim (fun hf => hf.elim) Or.inr) Or.inl⟩
  refine t1.trans ?_
  obtain ⟨hN, ⟨hB, hF, dBF⟩, dN⟩ := t1.now
  have hc : Chg (fun b => b = s.g) w1 (put6 w1 s.g k r v) := by
    unfold put6
    repeat (first | (with_reducible exact Chg.refl _ _) | (with_reducible refine Chg.set ?_ (Or.inr (by simp)) _))
  have hB2 : Blk (put6 w1 s.g k r v) s.g (s.put k r v).cells 127 := by
    rw [RlS.put_cells s k hk r v]
    unfold put6
    exact (((((hB.set _ _).set _ _).set _ _).set _ _).set _ _).set _ _
  have hN2 : (irow v r.its).holds (put6 w1 s.g k r v) := Own.chg hN hc (fun b hb e => dN b hb (Or.inl e))
  have hF2 : ∀ j, (s.fam j).holds (put6 w1 s.g k r v) := fun j => Own.chg (hF.1 j) hc (fun b hb e => dBF b e ⟨j, hb⟩)
  have hfam : ∀ j : Fin 8, (s.put k r v).fam j = if j.val = k then irow v r.its else s.fam j := fun j => by
    unfold RlS.fam RlS.put
    simp only []
    split <;> rfl
  refine ⟨hc.mono fun b _ e => Or.inr (Or.inl e), ⟨hB2, ⟨fun j => ?_, fun i j b hi hj => ?_⟩, fun b e hf => ?_⟩, fun b hb => Or.inl ?_⟩
  · rw [hfam]
    split
    · exact hN2
    · exact hF2 j
  · rw [hfam] at hi hj
    split at hi <;> split at hj
    · rename_i e1 e2; exact Fin.ext (e1.trans e2.symm)
    · exact (dN b hi (Or.inr ⟨j, hj⟩)).elim
    · exact (dN b hj (Or.inr ⟨i, hi⟩)).elim
    · exact hF.2 i j b hi hj
  · obtain ⟨j, hj⟩ := hf
    rw [hfam] at hj
    split at hj
    · exact dN b hj (Or.inl e)
    · exact dBF b e ⟨j, hj⟩
  · rcases hb with e | ⟨j, hj⟩
    · exact Or.inr (Or.inl e)
    · rw [hfam] at hj
      split at hj
      · exact Or.inl hj
      · exact Or.inr (Or.inr ⟨j, hj⟩)
/-- What Set tells. -/
def RlS.setE (s : RlS) (k : Int) (r : RwA) : Int := if ¬ (0 ≤ k ∧ k < 8) then 70 else if may r = false then 72 else if s.is k.toNat = true ∧ (r.num ≤ (s.row k.toNat).num ∨ r.at_ ≤ (s.row k.toNat).at_) then 71 else 0
theorem set_aux (s : RlS) (k : Int) (r : RwA) (A : Option Addr) (n c : Nat) (w : World) (z : Int) (P : Value → Hp.Own) (hz : s.setE k r = z) (hP : ∀ v, P v = (if z = 0 then s.put k.toNat r v else s).own) (hs : s.own.holds w) (hok : s.ok) (hx : Src w (.slice A n c) n 1 (r.its.map Value.string)) (hn : n * 16 ≤ 140737488355328) :
    Calls Try.prog 42 #[.pointer (some ⟨s.g, 0, none⟩), .int .i64 k, .agg (r.cells (.slice A n c))] w fun e w' => e = .returned (.int .i64 z) ∧ ∃ v, Turns w w' s.own (P v) := by
  have HTH := Lib.hid (fun W => there_any k W)
  have HIL := Lib.hid (show r.its.length = n by have := hx.1; simpa using this)
  have HMY := Lib.hid (fun W (hc : Chg (fun _ => False) w W) => may_any r A n c W (Src.keep0 hx hc))
  have HCP := Lib.hid (fun W (hc : Chg (fun _ => False) w W) => copied_any r A n c W (Src.keep0 hx hc) hn)
  have HS := Lib.hid hs
  have HP := Lib.hid hP
  have HZ := Lib.hid hz
  clear hP
  by_cases hk : 0 ≤ k ∧ k < 8
  · obtain ⟨j, rfl⟩ : ∃ j : Nat, k = j := ⟨k.toNat, by omega⟩
    have hj : j < 8 := by omega
    have hth : decide (0 ≤ (j : Int) ∧ (j : Int) < 8) = true := by simpa using hk
    rw [hth] at HTH
    unfold RlS.setE at hz
    rw [if_neg (fun h => h hk)] at hz
    simp only [Int.toNat_natCast] at hz
    by_cases hm : may r = true
    · rw [hm] at HMY
      rw [hm, if_neg (by simp)] at hz
      have hz3 : ((s.is j = true ∧ (r.num ≤ (s.row j).num ∨ r.at_ ≤ (s.row j).at_)) ∧ z = 71) ∨ (¬ (s.is j = true ∧ (r.num ≤ (s.row j).num ∨ r.at_ ≤ (s.row j).at_)) ∧ z = 0) := by
        by_cases ht : s.is j = true ∧ (r.num ≤ (s.row j).num ∨ r.at_ ≤ (s.row j).at_)
        · rw [if_pos ht] at hz; exact Or.inl ⟨ht, hz.symm⟩
        · rw [if_neg ht] at hz; exact Or.inr ⟨ht, hz.symm⟩
      clear hz
      obtain ⟨b0, b1, b2, b3, b4, b5⟩ := s.at_ hj
      have d0 := (hs.1.cell (j * 6)).trans b0
      have d1 := (hs.1.cell (j * 6 + 1)).trans b1
      have d2 := (hs.1.cell (j * 6 + 1 + 1)).trans b2
      have d3 := (hs.1.cell (j * 6 + 1 + 2)).trans b3
      have d4 := (hs.1.cell (j * 6 + 1 + 3)).trans b4
      have d5 := (hs.1.cell (j * 6 + 1 + 4)).trans b5
      have B0 := Lib.hid b0
      have B1 := Lib.hid b1
      have B2 := Lib.hid b2
      have B3 := Lib.hid b3
      have B4 := Lib.hid b4
      have B5 := Lib.hid b5
      have HBL := Lib.hid (show Blk w s.g s.cells 127 from hs.1)
      have hgl : s.g < w.heap.size := Blk.lt hs.1
      have hd : decide ((j : Int) < 8) = true := by simp; omega
      have hji : (j : Int) < 8 := by omega
      obtain ⟨A', c', hv, _⟩ := src_items hs hj
      rw [hv] at d5
      have HR := Lib.hid (show r = r from rfl)
      obtain ⟨num, at_, code, m, xs⟩ := r
      simp only [RwA.cells] at HMY HCP hz3 ⊢
      have HC := Lib.hid ((Chg.refl (fun _ => False) w).alloc (.cells #[.int .i64 num, .int .i64 at_, .int .i64 code, .int .i64 m, .slice A n c] 75))
      have HBX := Lib.hid (Blk.new w #[.int .i64 num, .int .i64 at_, .int .i64 code, .int .i64 m, .slice A n c] 75)
      obtain ⟨o1, ho1⟩ : ∃ o, (s.row j).num = o := ⟨_, rfl⟩
      obtain ⟨o2, ho2⟩ : ∃ o, (s.row j).at_ = o := ⟨_, rfl⟩
      rw [ho1, ho2] at hz3
      rw [ho1] at d1
      rw [ho2] at d2
      generalize (s.row j).code = o3 at *
      generalize (s.row j).n = o4 at *
      generalize (s.row j).its.length = o5 at *
      obtain ⟨ib, hib⟩ : ∃ b, s.is j = b := ⟨_, rfl⟩
      rw [hib] at d0 hz3
      clear hs hok hx hk hth hm hv b0 b1 b2 b3 b4 b5 ho1 ho2 hib
      rcases hz3 with ⟨⟨rfl, ht⟩, rfl⟩ | ⟨ht, rfl⟩
      · have e1 : (decide (num ≤ o1) = true ∧ True) ∨ (decide (num ≤ o1) = false ∧ decide (at_ ≤ o2) = true) := by
          by_cases h : num ≤ o1
          · left; exact ⟨by simpa using h, trivial⟩
          · right; exact ⟨by simpa using h, by simp; omega⟩
        clear ht
        rcases e1 with ⟨e1, e2⟩ | ⟨e1, e2⟩
        all_goals
          go_enter Try.func42, Try.ntmps42
          go_wp2_with (first
            | (go_at_call 84; (with_reducible refine (HTH.out _).mono ?_); rintro e w1 ⟨rfl, rfl⟩)
            | (go_at_call 86; (with_reducible refine (HMY.out _ HC.out).mono ?_); rintro e w1 ⟨rfl, hc1⟩; have HC1 := Lib.hid (HC.out.trans hc1); obtain ⟨⟨p0, p1, p2, p3, p4⟩, -, -, -, -, -, hl1⟩ := Blk.five (HBX.out.chg hc1 (fun h => h)); have k0 := (HC1.out.cell (p := ⟨s.g, j * 6, none⟩) hgl (fun h => h)).trans d0; have k1 := (HC1.out.cell (p := ⟨s.g, j * 6 + 1, none⟩) hgl (fun h => h)).trans d1; have k2 := (HC1.out.cell (p := ⟨s.g, j * 6 + 1 + 1, none⟩) hgl (fun h => h)).trans d2; have k3 := (HC1.out.cell (p := ⟨s.g, j * 6 + 1 + 2, none⟩) hgl (fun h => h)).trans d3; have k4 := (HC1.out.cell (p := ⟨s.g, j * 6 + 1 + 3, none⟩) hgl (fun h => h)).trans d4; have k5 := (HC1.out.cell (p := ⟨s.g, j * 6 + 1 + 4, none⟩) hgl (fun h => h)).trans d5; clear hc1))
          go_ret
          exact ⟨rfl, .slice none 0 0, by rw [HP.out, if_neg (by decide)]; exact Turns.of_kept HS.out (HC1.out.alloc _)⟩
      · have e1 : (ib = false ∧ True ∧ True) ∨ (ib = true ∧ decide (num ≤ o1) = false ∧ decide (at_ ≤ o2) = false) := by
          cases ib
          · left; exact ⟨rfl, trivial, trivial⟩
          · right
            have h1 : ¬ num ≤ o1 := fun h => ht ⟨rfl, Or.inl h⟩
            have h2 : ¬ at_ ≤ o2 := fun h => ht ⟨rfl, Or.inr h⟩
            exact ⟨rfl, by simpa using h1, by simpa using h2⟩
        clear ht
        rcases e1 with ⟨rfl, e1, e2⟩ | ⟨rfl, e1, e2⟩
        all_goals
          go_enter Try.func42, Try.ntmps42
          go_wp2_with (first
            | (go_at_call 84; (with_reducible refine (HTH.out _).mono ?_); rintro e w1 ⟨rfl, rfl⟩)
            | (go_at_call 86; (with_reducible refine (HMY.out _ HC.out).mono ?_); rintro e w1 ⟨rfl, hc1⟩; have HC1 := Lib.hid (HC.out.trans hc1); obtain ⟨⟨p0, p1, p2, p3, p4⟩, -, -, -, -, -, hl1⟩ := Blk.five (HBX.out.chg hc1 (fun h => h)); have k0 := (HC1.out.cell (p := ⟨s.g, j * 6, none⟩) hgl (fun h => h)).trans d0; have k1 := (HC1.out.cell (p := ⟨s.g, j * 6 + 1, none⟩) hgl (fun h => h)).trans d1; have k2 := (HC1.out.cell (p := ⟨s.g, j * 6 + 1 + 1, none⟩) hgl (fun h => h)).trans d2; have k3 := (HC1.out.cell (p := ⟨s.g, j * 6 + 1 + 2, none⟩) hgl (fun h => h)).trans d3; have k4 := (HC1.out.cell (p := ⟨s.g, j * 6 + 1 + 3, none⟩) hgl (fun h => h)).trans d4; have k5 := (HC1.out.cell (p := ⟨s.g, j * 6 + 1 + 4, none⟩) hgl (fun h => h)).trans d5; clear hc1))
          have HC2 := Lib.hid fun o => (HC1.out.alloc o).drew
          go_region_law (go_simp; go_at_call 85; (with_reducible refine (HCP.out _ ?_).mono ?_); exact HC2.out _; rintro e w3 ⟨A3, c3, rfl, ht3⟩; have HT3 := Lib.hid ((Turns.of_kept (O := Hp.Own.emp) (w := w) trivial (HC2.out _)).trans ht3); have hb3 := HBL.out.chg ((HC2.out _).trans ht3.chg) (fun h => h); have x0 := hb3.cell (j * 6); rw [B0.out] at x0; have x1 := hb3.cell (j * 6 + 1); rw [B1.out] at x1; have x2 := hb3.cell (j * 6 + 1 + 1); rw [B2.out] at x2; have x3 := hb3.cell (j * 6 + 1 + 2); rw [B3.out] at x3; have x4 := hb3.cell (j * 6 + 1 + 3); rw [B4.out] at x4; have x5 := hb3.cell (j * 6 + 1 + 4); rw [B5.out] at x5; have y0 := hb3.frozen (j * 6); have y1 := hb3.frozen (j * 6 + 1); have y2 := hb3.frozen (j * 6 + 1 + 1); have y3 := hb3.frozen (j * 6 + 1 + 2); have y4 := hb3.frozen (j * 6 + 1 + 3); have y5 := hb3.frozen (j * 6 + 1 + 4); clear hb3 ht3)
          all_goals
            go_wp2_with fail
            go_ret
            refine ⟨rfl, .slice A3 n c3, ?_⟩
            rw [HP.out]
            simp only [Int.toNat_natCast, if_true]
            refine set_turn (r := ⟨num, at_, code, m, xs⟩) HS.out (?_ : Turns w w3 Hp.Own.emp (irow (.slice A3 n c3) xs)) hj
            have h9 := HT3.out
            unfold its at h9
            unfold irow
            rw [show xs.length = n from HIL.out]
            exact h9
    · have hm : may r = false := by simpa using hm
      rw [hm] at HMY
      rw [hm, if_pos rfl] at hz
      subst hz
      obtain ⟨num, at_, code, m, xs⟩ := r
      simp only [RwA.cells] at HMY HCP ⊢
      have HC := Lib.hid ((Chg.refl (fun _ => False) w).alloc (.cells #[.int .i64 num, .int .i64 at_, .int .i64 code, .int .i64 m, .slice A n c] 75))
      clear hs hok hx hk hth hm
      go_enter Try.func42, Try.ntmps42
      go_wp2_with (first
        | (go_at_call 84; (with_reducible refine (HTH.out _).mono ?_); rintro e w1 ⟨rfl, rfl⟩)
        | (go_at_call 86; (with_reducible refine (HMY.out _ HC.out).mono ?_); rintro e w1 ⟨rfl, hc1⟩; have HC1 := Lib.hid (HC.out.trans hc1); clear hc1))
      go_ret
      exact ⟨rfl, .slice none 0 0, by rw [HP.out, if_neg (by decide)]; exact Turns.of_kept HS.out HC1.out⟩
  · have e : s.setE k r = 70 := by unfold RlS.setE; rw [if_pos hk]
    rw [e] at hz
    subst hz
    have hth : decide (0 ≤ k ∧ k < 8) = false := decide_eq_false hk
    rw [hth] at HTH
    obtain ⟨num, at_, code, m, xs⟩ := r
    simp only [RwA.cells] at HMY HCP ⊢
    have HC := Lib.hid ((Chg.refl (fun _ => False) w).alloc (.cells #[.int .i64 num, .int .i64 at_, .int .i64 code, .int .i64 m, .slice A n c] 75))
    clear e hs hk hth hok hx
    go_enter Try.func42, Try.ntmps42
    go_wp2_with (go_at_call 84; (with_reducible refine (HTH.out _).mono ?_); rintro e w1 ⟨rfl, rfl⟩)
    go_ret
    exact ⟨rfl, .slice none 0 0, by rw [HP.out, if_neg (by decide)]; exact Turns.of_kept HS.out HC.out⟩
theorem set_any (s : RlS) (k : Int) (r : RwA) (A : Option Addr) (n c : Nat) (w : World) (hs : s.own.holds w) (hok : s.ok) (hx : Src w (.slice A n c) n 1 (r.its.map Value.string)) (hn : n * 16 ≤ 140737488355328) :
    Calls Try.prog 42 #[.pointer (some ⟨s.g, 0, none⟩), .int .i64 k, .agg (r.cells (.slice A n c))] w fun e w' => e = .returned (.int .i64 (s.setE k r)) ∧ ∃ v, Turns w w' s.own (if s.setE k r = 0 then s.put k.toNat r v else s).own :=
  set_aux s k r A n c w _ (fun v => (if s.setE k r = 0 then s.put k.toNat r v else s).own) rfl (fun _ => rfl) hs hok hx hn
end Go.Proofs.Ytkpgdonpmfebaaa.Rl
