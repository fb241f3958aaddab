/- The gauge's law: GaugeOf. -/
import Derived.Test.YtgoimoaeeiobnaaGaRf
namespace Go.Proofs.Ytgoimoaeeiobnaa.Ga
open Go.RowKit Go.Hp Go.Fl
set_option linter.unusedSimpArgs false
set_option linter.unusedVariables false
set_option maxRecDepth 100000
attribute [local go_sem] run_store_float
theorem Sl.pre {w : World} {g m cx : Nat} {xs ys : List Int} (h : (Own.row 3 1 (.slice (some ⟨g, 0, none⟩) m cx) m (iv (xs ++ ys))).holds w) : Sl w (some ⟨g, 0, none⟩) xs := by
  have h : w.ownsRow 0 3 1 (.slice (some ⟨g, 0, none⟩) m cx) m (iv (xs ++ ys)) := h
  rcases Nat.eq_zero_or_pos m with h0 | h0
  · left
    have := h.1
    rw [iv_len] at this
    simp at this
    exact List.eq_nil_of_length_eq_zero (by omega)
  · obtain ⟨g', cap, hv, hg, _⟩ := row_form h h0
    obtain ⟨rfl, _⟩ : g = g' ∧ cx = cap := by simpa using hv
    refine Or.inr ⟨g, 0, rfl, hg, fun j hj => ?_⟩
    have := World.ownsRow.cells (g := g) h rfl j (.int .i64 xs[j]) (by unfold iv; simp [List.getElem?_append_left, hj])
    have ha : (⟨g, 0, none⟩ : Addr).add j = ⟨g, 0 + j, none⟩ := by unfold Addr.add; split <;> simp_all
    rwa [ha] at this
theorem Sl.full {w : World} {g m cx : Nat} {xs : List Int} (h : (Own.row 3 1 (.slice (some ⟨g, 0, none⟩) m cx) m (iv xs)).holds w) : Sl w (some ⟨g, 0, none⟩) xs := Sl.pre (ys := []) (by simpa using h)
theorem Blk.five {w : World} {b : Nat} {a0 a1 a2 a3 a4 : Value} {T : TypeId} (h : Blk w b #[a0, a1, a2, a3, a4] T) :
    w.cell? ⟨b, 0, none⟩ = some a0 ∧ w.cell? ⟨b, 1, none⟩ = some a1 ∧ w.cell? ⟨b, 2, none⟩ = some a2 ∧ w.cell? ⟨b, 3, none⟩ = some a3 ∧ w.cell? ⟨b, 4, none⟩ = some a4 ∧ b < w.heap.size :=
  ⟨h.cell 0, h.cell 1, h.cell 2, h.cell 3, h.cell 4, h.lt⟩
theorem Blk.fives {w : World} {b : Nat} {a0 a1 a2 a3 a4 : Value} {T : TypeId} (h : Blk w b #[a0, a1, a2, a3, a4] T) :
    w.frozen? ⟨b, 0, none⟩ = false ∧ w.frozen? ⟨b, 1, none⟩ = false ∧ w.frozen? ⟨b, 2, none⟩ = false ∧ w.frozen? ⟨b, 3, none⟩ = false ∧ w.frozen? ⟨b, 4, none⟩ = false :=
  ⟨h.frozen 0, h.frozen 1, h.frozen 2, h.frozen 3, h.frozen 4⟩
theorem Blk.apart {w : World} {b : Nat} {cs : Array Value} {T E : TypeId} {v : Value} {n : Nat} {xs : List Value} (h : Blk w b cs T) (ho : (Own.row E 1 v n xs).holds w) (hT : T ≠ E) : ¬ (Own.row E 1 v n xs).foot b := by
  intro hf
  have hf : v.ownBlock = some b := hf
  have ho : w.ownsRow 0 E 1 v n xs := ho
  rcases ho.2 with ⟨rfl, _⟩ | ⟨g, cap, cur, rfl, _, hh, _⟩
  · cases hf
  · have : g = b := by simpa [Value.ownBlock] using hf
    subst this
    have := Blk.inj h hh
    exact hT this.2
theorem Blk.put5 {w : World} {b : Nat} {a0 a1 a2 a3 a4 : Value} {T : TypeId} (h : Blk w b #[a0, a1, a2, a3, a4] T) (c0 c1 c2 c3 c4 : Value) :
    SetBlk w (((((w.setCell ⟨b, 0, none⟩ c0).setCell ⟨b, 1, none⟩ c1).setCell ⟨b, 2, none⟩ c2).setCell ⟨b, 3, none⟩ c3).setCell ⟨b, 4, none⟩ c4) b #[c0, c1, c2, c3, c4] T := by
  have k := ((((SetBlk.of_set h 0 c0).then 1 c1).then 2 c2).then 3 c3).then 4 c4
  simpa using k
theorem Chg.far {a b c : World} {g : Nat} (h : Chg (fun _ => False) a b) (k : Chg (· = g) b c) (hg : a.heap.size ≤ g) : Chg (fun _ => False) a c :=
  ⟨k.os.trans h.os, k.tape.trans h.tape, k.output.trans h.output, Nat.le_trans h.size k.size, fun i hi hS => (k.block i (Nat.lt_of_lt_of_le hi h.size) (by intro e; subst e; omega)).trans (h.block i hi hS)⟩
theorem of_all3 (A B : Option Addr) (n m c d : Nat) (l o : List Int) (w : World) (hs : Sl w A l) (hi : I64 l) (hl : l.length = n) (hn : (n + 8) * 8 ≤ 140737488355328) (ht : Sl w B o) (hj : I64 o) (hm : o.length = m) :
    Calls Try.prog 3 #[.slice A n c, .slice B m d] w (TruePost w) := by
  have HLE := Lib.hid (fun W h => lent_any A n c l W h hl hn)
  have HO1 := Lib.hid (fun A' c' W h => of_same A' n c' l W h hi hl)
  have HO2 := Lib.hid (fun W h => of_same B m d o W h hj hm)
  have HR1 := Lib.hid (fun W h => rof_same A n c l W h hi hl)
  have HR2 := Lib.hid (fun W h => rof_same B m d o W h hj hm)
  have HST := Lib.hid (fun A' c' W h1 h2 => still_yes A' A n c' c l W h1 h2 hl (by omega))
  have HTU := Lib.hid (fun g cx W h => turned_any g n cx (n + 8) cx l (rep 8 (-77)) W h hl (by omega))
  have HOX := Lib.hid (fun A' c' xs (h1 : xs.length = n) (h2 : I64 xs) W h => of_same A' n c' xs W h h2 h1)
  have HRX := Lib.hid (fun A' c' xs (h1 : xs.length = n) (h2 : I64 xs) W h => rof_same A' n c' xs W h h2 h1)
  have HCO := Lib.hid (fun A' c' xs (h1 : xs.length = n) W h => copied_any A' n c' xs W h h1 (by omega))
  have HF := Lib.hid (of_floats l hi)
  unfold OfPost at HO1 HO2 HR1 HR2
  rw [show l.length = n from hl] at HO1 HR1
  generalize ofF l (mF l) = f1 at *
  generalize ofF l (devF l) = g1 at *
  generalize ofZ l (n : Int) = x1 at *
  generalize ofZ l (Lib.minOf l) = y1 at *
  generalize ofZ l (Lib.maxOf l) = z1 at *
  generalize ofE l = e1 at *
  generalize ofF o (mF o) = f2 at *
  generalize ofF o (devF o) = g2 at *
  generalize ofZ o (o.length : Int) = x2 at *
  generalize ofZ o (Lib.minOf o) = y2 at *
  generalize ofZ o (Lib.maxOf o) = z2 at *
  generalize ofE o = e2 at *
  have HS := Lib.hid hs
  have HB := Lib.hid ht
  have hn' : n ≤ n + 8 := by omega
  have hw8 : n ≤ 17592186044408 := by omega
  clear hs ht hi hj hl hm hn
  go_enter Try.func3, Try.ntmps3
  go_wp2_with (first
    | (go_at_call 13; (with_reducible refine (shown_any _).mono ?_); rintro r w1 ⟨rfl, hc1⟩; have HC1 := Lib.hid hc1; clear hc1; have HS1 := Lib.hid (HS.out.keep HC1.out))
    | (go_at_call 14; (with_reducible refine (HLE.out _ HS1.out).mono ?_); rintro r w2 ⟨g, cx, rfl, hcx, ht2⟩; have HT2 := Lib.hid ((Turns.of_kept (O := Own.emp) trivial HC1.out).trans ht2); clear ht2; have HA2 := Lib.hid (Sl.pre HT2.out.now); have HCX := Lib.hid hcx; have hcx2 : n ≤ cx := (by omega))
    | (go_at_call 15; (with_reducible refine (HO1.out _ _ _ HA2.out).mono ?_); rintro r w3 ⟨rfl, hc3⟩; have HZ3 := Lib.hid (Nat.le_trans HT2.out.chg.size hc3.size); have HT3 := Lib.hid (HT2.out.kept (hc3.alloc (.cells #[.int .i64 x1, .int .i64 y1, .int .i64 z1, .float .f64 f1, .float .f64 g1] 27))); clear hc3; have HM3 := Lib.hid (Blk.new w3 #[.int .i64 x1, .int .i64 y1, .int .i64 z1, .float .f64 f1, .float .f64 g1] 27); have HB3 := Lib.hid (HB.out.keep HT3.out.chg))
    | (go_at_call 15; (with_reducible refine (HO2.out _ HB3.out).mono ?_); rintro r w4 ⟨rfl, hc4⟩; have HT4 := Lib.hid (HT3.out.kept (hc4.alloc (.cells #[.int .i64 x2, .int .i64 y2, .int .i64 z2, .float .f64 f2, .float .f64 g2] 27))); have HM4 := Lib.hid (HM3.out.chg (hc4.alloc (.cells #[.int .i64 x2, .int .i64 y2, .int .i64 z2, .float .f64 f2, .float .f64 g2] 27)) (fun h => h)); clear hc4; have HA4 := Lib.hid (Sl.pre HT4.out.now))
    | (go_at_call 15; (with_reducible refine (HO1.out _ _ _ HA4.out).mono ?_); rintro r w5 ⟨rfl, hc5⟩; have HT5 := Lib.hid (HT4.out.kept (hc5.alloc (.cells #[.int .i64 x1, .int .i64 y1, .int .i64 z1, .float .f64 f1, .float .f64 g1] 27))); have HM5 := Lib.hid (HM4.out.chg (hc5.alloc (.cells #[.int .i64 x1, .int .i64 y1, .int .i64 z1, .float .f64 f1, .float .f64 g1] 27)) (fun h => h)); clear hc5; have HN5 := Lib.hid (Blk.new w5 #[.int .i64 x1, .int .i64 y1, .int .i64 z1, .float .f64 f1, .float .f64 g1] 27); have HS5 := Lib.hid (HS.out.keep HT5.out.chg))
    | (go_at_call 16; (with_reducible refine (HR1.out _ HS5.out).mono ?_); rintro r w6 ⟨rfl, hc6⟩; have HLT := Lib.hid (HM5.out.chg hc6 (fun h => h)).lt; have HT6 := Lib.hid (HT5.out.kept (hc6.alloc (.cells #[.int .i64 x1, .int .i64 y1, .int .i64 z1, .float .f64 f1, .float .f64 g1] 27))); have HM6 := Lib.hid (HM5.out.chg (hc6.alloc (.cells #[.int .i64 x1, .int .i64 y1, .int .i64 z1, .float .f64 f1, .float .f64 g1] 27)) (fun h => h)); have HN6 := Lib.hid (HN5.out.chg (hc6.alloc (.cells #[.int .i64 x1, .int .i64 y1, .int .i64 z1, .float .f64 f1, .float .f64 g1] 27)) (fun h => h)); clear hc6; have HW6 := Lib.hid (Blk.new w6 #[.int .i64 x1, .int .i64 y1, .int .i64 z1, .float .f64 f1, .float .f64 g1] 27); have HB6 := Lib.hid (HB.out.keep HT6.out.chg))
    | (go_at_call 16; (with_reducible refine (HR2.out _ HB6.out).mono ?_); rintro r w7 ⟨rfl, hc7⟩; have HT7 := Lib.hid (HT6.out.kept (hc7.alloc (.cells #[.int .i64 x2, .int .i64 y2, .int .i64 z2, .float .f64 f2, .float .f64 g2] 27))); have HM7 := Lib.hid (HM6.out.chg hc7 (fun h => h)); have HN7 := Lib.hid (HN6.out.chg hc7 (fun h => h)); have HW7 := Lib.hid (HW6.out.chg hc7 (fun h => h)); have hc7' := hc7.alloc (.cells #[.int .i64 x2, .int .i64 y2, .int .i64 z2, .float .f64 f2, .float .f64 g2] 27); clear hc7; have HMA := Lib.hid (HM6.out.chg hc7' (fun h => h)); have HNA := Lib.hid (HN6.out.chg hc7' (fun h => h)); have HWA := Lib.hid (HW6.out.chg hc7' (fun h => h)); clear hc7'; obtain ⟨a0, a1, a2, a3, a4, a5⟩ := Blk.five HM7.out; obtain ⟨b0, b1, b2, b3, b4, b5⟩ := Blk.five HN7.out; obtain ⟨c0, c1, c2, c3, c4, c5⟩ := Blk.five HW7.out; have hsz7 : w7.heap.size < (w7.alloc (.cells #[.int .i64 x2, .int .i64 y2, .int .i64 z2, .float .f64 f2, .float .f64 g2] 27)).heap.size := (by simp))
    | (go_at_call 17; (with_reducible refine (sameM_yes 0 0 0 f1 g1 x1 y1 z1 (w7.alloc (.cells #[.int .i64 x2, .int .i64 y2, .int .i64 z2, .float .f64 f2, .float .f64 g2] 27)) HF.out.1 HF.out.2).mono ?_); rintro r w8 ⟨rfl, hc8⟩; have HT8 := Lib.hid (HT7.out.kept hc8); have HM8 := Lib.hid (HMA.out.chg hc8 (fun h => h)); have HW8 := Lib.hid (HWA.out.chg hc8 (fun h => h)); obtain ⟨b0, b1, b2, b3, b4, b5⟩ := Blk.five (HNA.out.chg hc8 (fun h => h)); obtain ⟨c0, c1, c2, c3, c4, c5⟩ := Blk.five HW8.out; clear hc8)
    | (go_at_call 17; (with_reducible refine (sameM_yes 0 0 0 f1 g1 x1 y1 z1 w8 HF.out.1 HF.out.2).mono ?_); rintro r w9 ⟨rfl, hc9⟩; have HT9 := Lib.hid (HT8.out.kept hc9); have HM9 := Lib.hid (HM8.out.chg hc9 (fun h => h)); have HW9 := Lib.hid (HW8.out.chg hc9 (fun h => h)); clear hc9; have HA9 := Lib.hid (Sl.full HT9.out.now); have HS9 := Lib.hid (HS.out.keep HT9.out.chg))
    | (go_at_call 18; (with_reducible refine (HST.out _ _ _ HA9.out HS9.out).mono ?_); rintro r w10 ⟨rfl, q10, hq10⟩; have hc10 : Chg (fun _ => False) w9 w10 := (by rw [← hq10]; exact (Chg.refl _ _).drewN _); clear hq10; have HT10 := Lib.hid (HT9.out.kept hc10); have HM10 := Lib.hid (HM9.out.chg hc10 (fun h => h)); have HW10 := Lib.hid (HW9.out.chg hc10 (fun h => h)); clear hc10)
    | (go_at_call 19; (with_reducible refine (HTU.out _ _ _ HT10.out.now).mono ?_); rintro r w11 ⟨rfl, xs, hx1, hx2, ht11⟩; have HT11 := Lib.hid ht11; clear ht11; have HX1 := Lib.hid hx1; have HX2 := Lib.hid hx2; clear hx1 hx2; have HA11 := Lib.hid (Sl.pre HT11.out.now); have HM11 := Lib.hid (HM10.out.chg HT11.out.chg (Blk.apart HM10.out HT10.out.now (by decide))); have HW11 := Lib.hid (HW10.out.chg HT11.out.chg (Blk.apart HW10.out HT10.out.now (by decide))); have HT11' := Lib.hid (HT10.out.trans HT11.out); have HO3 := Lib.hid (fun W h => HOX.out (some ⟨g, 0, none⟩) cx xs HX1.out HX2.out W h); have HR3 := Lib.hid (fun A' c' W h => HRX.out A' c' xs HX1.out HX2.out W h); have HF3 := Lib.hid (of_floats xs HX2.out); unfold OfPost at HO3 HR3; generalize ofF xs (mF xs) = f3 at *; generalize ofF xs (devF xs) = g3 at *; generalize ofZ xs (xs.length : Int) = x3 at *; generalize ofZ xs (Lib.minOf xs) = y3 at *; generalize ofZ xs (Lib.maxOf xs) = z3 at *; generalize ofE xs = e3 at *)
    | (go_at_call 15; (with_reducible refine (HO3.out _ HA11.out).mono ?_); rintro r w12 ⟨rfl, hc12⟩; have HT12 := Lib.hid (HT11'.out.kept hc12); have HM12 := Lib.hid (HM11.out.chg hc12 (fun h => h)); have HW12 := Lib.hid (HW11.out.chg hc12 (fun h => h)); clear hc12; obtain ⟨a0, a1, a2, a3, a4, a5⟩ := Blk.five HM12.out; obtain ⟨i0, i1, i2, i3, i4⟩ := Blk.fives HM12.out)
    | (go_at_call 20; have HSB := Lib.hid (Blk.put5 HM12.out (.int .i64 x3) (.int .i64 y3) (.int .i64 z3) (.float .f64 f3) (.float .f64 g3)); (with_reducible refine (HCO.out (some ⟨g, 0, none⟩) cx xs HX1.out _ (Sl.pre (Own.chg HT12.out.now HSB.out.chg (fun b hf he => absurd (he ▸ hf) (Blk.apart HM12.out HT12.out.now (by decide)))))).mono ?_); rintro r w13 ⟨X, cx', rfl, ht13⟩; have HT13 := Lib.hid ht13; clear ht13; have HC13 := Lib.hid ((Chg.far HT12.out.chg HSB.out.chg HZ3.out).trans HT13.out.chg); have HM13 := Lib.hid (HSB.out.blk.chg HT13.out.chg (fun h => h)); have HW13 := Lib.hid ((HW12.out.chg HSB.out.chg (by have := HLT.out; omega)).chg HT13.out.chg (fun h => h)); have HX13 := Lib.hid (Sl.of_row (zs := xs) HT13.out.now))
    | (go_at_call 16; (with_reducible refine (HR3.out _ _ _ HX13.out).mono ?_); rintro r w14 ⟨rfl, hc14⟩; have HC14 := Lib.hid (HC13.out.trans hc14); have HM14 := Lib.hid (HM13.out.chg hc14 (fun h => h)); have HW14 := Lib.hid (HW13.out.chg hc14 (fun h => h)); clear hc14; clear a0 a1 a2 a3 a4 a5 i0 i1 i2 i3 i4; obtain ⟨a0, a1, a2, a3, a4, a5⟩ := Blk.five HM14.out; obtain ⟨c0, c1, c2, c3, c4, c5⟩ := Blk.five HW14.out; obtain ⟨i0, i1, i2, i3, i4⟩ := Blk.fives HW14.out; have hne : ¬ w3.heap.size = w6.heap.size := (by have := HLT.out; omega); have hne' : ¬ w6.heap.size = w3.heap.size := (by have := HLT.out; omega))
    | (go_at_call 17; (with_reducible refine (sameM_yes 0 0 0 f3 g3 x3 y3 z3 _ HF3.out.1 HF3.out.2).mono ?_); rintro r w15 ⟨rfl, hc15⟩; have HC15 := Lib.hid hc15; clear hc15))
  go_ret
  exact ⟨rfl, (Chg.far HC14.out (Blk.put5 HW14.out (.int .i64 x3) (.int .i64 y3) (.int .i64 z3) (.float .f64 f3) (.float .f64 g3)).chg (by have := HZ3.out; have := HLT.out; omega)).trans HC15.out⟩
theorem ints_len8 {w : World} {A : Option Addr} {n c : Nat} (h : ArgOk Try.prog w 22 (.slice A n c)) : (n + 8) * 8 ≤ 140737488355328 := by
  have hu := Try.underlying22
  have hc : Try.prog.cellsOf 3 = 1 := by kernel_rfl
  have hby : Try.prog.bytesOf 3 = 8 := by kernel_rfl
  rcases h.rdg.slice hu (by rw [hc]; decide) with h0 | ⟨a, l, c', hcs, hl, hm, hb, hi⟩
  · simp [Value.cells] at h0
    omega
  · simp [Value.cells] at hcs
    obtain ⟨rfl, rfl, rfl⟩ := hcs
    rw [hby] at hb
    omega
theorem of_law (v0 v1 : Value) (w : World) (h0 : ArgOk Try.prog w 22 v0) (h1 : ArgOk Try.prog w 22 v1) :
    Calls Try.prog 3 #[v0, v1] w fun e w' => e = .returned (.bool true) ∧ Below w.heap.size w w' := by
  obtain ⟨A, l, c, rfl, hw, hs⟩ := ints_sl h0
  obtain ⟨B, o, d, rfl, hw', ht⟩ := ints_sl h1
  refine (of_all3 A B _ _ c d l o w hs (fun x hx => wf_i64 (hw x hx)) rfl (ints_len8 h0) ht (fun x hx => wf_i64 (hw' x hx)) rfl).mono ?_
  rintro e w' ⟨he, hc⟩
  exact ⟨he, hc.below (fun k h => h.elim) (Nat.le_refl _)⟩
end Go.Proofs.Ytgoimoaeeiobnaa.Ga
