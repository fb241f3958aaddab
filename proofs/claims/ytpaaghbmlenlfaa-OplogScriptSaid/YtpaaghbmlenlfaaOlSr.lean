/- The law's desk: act. -/
import Derived.Test.YtpaaghbmlenlfaaOlSp
import Derived.Test.YtpaaghbmlenlfaaOlSq
namespace Go.Proofs.Ytpaaghbmlenlfaa.Ol
open Go.Hp.M7
open Go.RowKit Go.Hp
attribute [local go_sem] min2_lean min_two max2_lean max_two
set_option linter.unusedSimpArgs false
set_option linter.unusedVariables false
set_option maxRecDepth 100000
def actP (m g f : Nat) (k : KM) (d : DK) (w : World) (e : Ending) (w' : World) : Prop := e = .returned (.bool true) ∧ ∃ f' k' d', DK.Ok m d' ∧ d.n ≤ d'.n ∧ k'.Wf f' k'.M ∧ Oky k' ∧ 2 * k'.M - f' ≤ 2 * k.M - f + 2 ∧ Turns w w' (dO m g f k d) (dO m g f' k' d')
theorem am_nat (i : Int) (n : Nat) (hn : 1 ≤ n) : ∃ jt : Nat, jt < n ∧ am i n = (jt : Int) := by
  have h1 := Int.tmod_lt_of_pos i (b := (n : Int)) (by omega)
  have h2 := Int.lt_tmod_of_pos i (b := (n : Int)) (by omega)
  unfold am
  split
  · exact ⟨(i.tmod n + n).toNat, by omega, by omega⟩
  · exact ⟨(i.tmod n).toNat, by omega, by omega⟩
/-- The list that was kept last still reads as it did. -/
theorem add_ens {m g f : Nat} {k : KM} {d : DK} {w : World} {ov wv y : Value} {A : Option Addr} {n c : Nat} {l : List En} (h : (dO m g f (k.add ov wv (.slice A n c) y n (flat l)) d).holds w) (hw : k.Wf f k.M) : EnS w A l ∧ l.length = n := by
  have h1 := add_src h hw
  have h2 := (KM.forms h.1.2.1 (hw.add ov wv (.slice A n c) y n (flat l)) (i := k.M) (Nat.lt_succ_self _)).1
  have e1 : (k.add ov wv (.slice A n c) y n (flat l)).out k.M = .slice A n c := if_pos rfl
  rw [e1] at h2
  obtain ⟨A', c', e, hl, hs⟩ := EnS.of_src h1 h2
  obtain ⟨rfl, _, rfl⟩ := Value.slice.inj e
  exact ⟨hs, hl⟩
theorem pFrom2 (g pb m : Nat) (A : Ab) (op most : Int) (w : World) (h : (pO g pb m A).holds w) :
    Calls Try.prog 51 #[.pointer (some ⟨g, 0, none⟩), .int .i64 op, .int .i64 most] w fun e w' => ∃ V n, n = (aFr A op most).length ∧ e = .returned V ∧ Turns w w' Hp.Own.emp (Hp.Own.row 51 7 V n (flat (aFr A op most))) := by
  have h1 := pFrom g pb m A op most w h
  rwa [frL_eq] at h1
theorem gd_flat (l : List En) : Gd (flat l) := ⟨l, rfl⟩
theorem rO_cap {g : Nat} {m b : Int} {A : Option Addr} {n c : Nat} {l : List En} {w : World} (h : (rO g m b (.slice A n c) l).holds w) : n ≤ c := by
  rcases h.2.1.2 with ⟨hv, h0⟩ | ⟨g', cap, cur, hv, _, _, hc, _⟩
  · obtain ⟨_, rfl, rfl⟩ := Value.slice.inj hv; exact Nat.le_refl _
  · obtain ⟨_, h1, rfl⟩ := Value.slice.inj hv; omega
theorem aFr_len (A : Ab) (op most : Int) : (aFr A op most).length ≤ A.2.length := by
  unfold aFr
  split
  · rw [List.length_take, List.length_drop]; omega
  · exact Nat.zero_le _
theorem EnS.take {w : World} {A : Option Addr} {l : List En} (h : EnS w A l) (k : Nat) : EnS w A (l.take k) := fun i e hi => by
  have hik : i < k := by have := (List.getElem?_eq_some_iff.1 hi).1; simp at this; omega
  rw [List.getElem?_take_of_lt hik] at hi
  exact h i e hi
set_option maxHeartbeats 8000000 in
theorem act_any (m g f : Nat) (k : KM) (d : DK) (j num : Nat) (kd lg op mo yc yn yk : Int) (ym yt : ByteArray) (yu yo : Int) (A : Option Addr) (al : List En) (n c : Nat) (w : World) (h : (dO m g f k d).holds w) (ho : DK.Ok m d) (hk : k.Wf f k.M) (hy : Oky k) (hN : 2 * k.M - f ≤ 8796093022200) (hj : j < d.n)
    (hs : EnS w A al) (hn : al.length = n) (hfar : ∀ b off, A = some ⟨b, off, none⟩ → 0 < al.length → ¬ (dO m g f k d).foot b ∧ b < w.heap.size) (hb : n * 72 ≤ 140737488351232) (hnum : num ≤ 1152921504606846976) :
    Calls Try.prog 37 #[.pointer (some ⟨g, 0, none⟩), .int .i64 j, .int .i64 num, .agg #[.int .i64 kd, .int .i64 lg, .int .i64 op, .int .i64 mo, .int .i64 yc, .int .i64 yn, .int .i64 yk, .string ym, .string yt, .int .i64 yu, .int .i64 yo, .slice A n c]] w (actP m g f k d w) := by
  obtain ⟨nn, hnn⟩ : ∃ nn, d.n = nn := ⟨_, rfl⟩
  obtain ⟨ba, ca, bb, cb, hav, hbv, -⟩ := dO_see h hj
  have HAV := Lib.hid hav
  have HBV := Lib.hid hbv
  have HNN := Lib.hid hnn
  have HJ := Lib.hid hj
  have HO := Lib.hid ho
  have HK := Lib.hid hk
  have HY := Lib.hid hy
  have HMN := Lib.hid hN
  have HN := Lib.hid hn
  have hjn : (j : Int) < (nn : Int) := by omega
  have hj0 : (0 : Int) ≤ (j : Int) := Int.natCast_nonneg _
  have H1 := Lib.hid ((Turns.refl h).push #[.int .i64 kd, .int .i64 lg, .int .i64 op, .int .i64 mo, .int .i64 yc, .int .i64 yn, .int .i64 yk, .string ym, .string yt, .int .i64 yu, .int .i64 yo, .slice A n c] 54)
  have HS := Lib.hid hs
  have HF := Lib.hid hfar
  obtain ⟨q, hq, ham⟩ := am_nat kd 9 (by omega)
  have HAM : Hid (∀ W, Calls Try.prog 32 #[.int .i64 kd, .int .i64 9] W fun e w' => e = .returned (.int .i64 q) ∧ w' = W) := Lib.hid (fun W => by
    have h := among_any kd 9 W (by omega) (by omega)
    rw [ham] at h
    exact h)
  have x0 : (w.alloc (.cells #[.int .i64 kd, .int .i64 lg, .int .i64 op, .int .i64 mo, .int .i64 yc, .int .i64 yn, .int .i64 yk, .string ym, .string yt, .int .i64 yu, .int .i64 yo, .slice A n c] 54)).cell? ⟨g, 0, none⟩ = some (.slice (some ⟨ba, 0, none⟩) nn ca) := (dO_at H1.out.n1 HJ.out HAV.out HBV.out HNN.out).1; have x1 : (w.alloc (.cells #[.int .i64 kd, .int .i64 lg, .int .i64 op, .int .i64 mo, .int .i64 yc, .int .i64 yn, .int .i64 yk, .string ym, .string yt, .int .i64 yu, .int .i64 yo, .slice A n c] 54)).cell? ⟨g, 1, none⟩ = some (.slice (some ⟨bb, 0, none⟩) nn cb) := (dO_at H1.out.n1 HJ.out HAV.out HBV.out HNN.out).2.1; have x2 : (w.alloc (.cells #[.int .i64 kd, .int .i64 lg, .int .i64 op, .int .i64 mo, .int .i64 yc, .int .i64 yn, .int .i64 yk, .string ym, .string yt, .int .i64 yu, .int .i64 yo, .slice A n c] 54)).cell? ⟨ba, j, none⟩ = some (Ptr (d.ga j)) := (dO_at H1.out.n1 HJ.out HAV.out HBV.out HNN.out).2.2.1; have x3 : (w.alloc (.cells #[.int .i64 kd, .int .i64 lg, .int .i64 op, .int .i64 mo, .int .i64 yc, .int .i64 yn, .int .i64 yk, .string ym, .string yt, .int .i64 yu, .int .i64 yo, .slice A n c] 54)).cell? ⟨bb, j, none⟩ = some (Ptr (d.gr j)) := (dO_at H1.out.n1 HJ.out HAV.out HBV.out HNN.out).2.2.2.1
  have kk0 : (w.alloc (.cells #[.int .i64 kd, .int .i64 lg, .int .i64 op, .int .i64 mo, .int .i64 yc, .int .i64 yn, .int .i64 yk, .string ym, .string yt, .int .i64 yu, .int .i64 yo, .slice A n c] 54)).drew.cell? ⟨w.heap.size, 0, none⟩ = some (.int .i64 kd) := H1.out.drew.b0.cell 0
  clear h ho hj hs hn hfar hnn hav hbv ham hk hy hN
  go_enter Try.func37, Try.ntmps37
  go_wp2_with fail
  go_region_held3 (fun w' => w'.cell? ⟨g, 0, none⟩ = some (.slice (some ⟨ba, 0, none⟩) nn ca) ∧ w'.cell? ⟨g, 1, none⟩ = some (.slice (some ⟨bb, 0, none⟩) nn cb) ∧ w'.cell? ⟨ba, j, none⟩ = some (Ptr (d.ga j)) ∧ w'.cell? ⟨bb, j, none⟩ = some (Ptr (d.gr j))) (go_keep) (fail)
  have H2 := Lib.hid H1.out.drew
  obtain ⟨W2, hW2⟩ : ∃ W, W = (w.alloc (.cells #[.int .i64 kd, .int .i64 lg, .int .i64 op, .int .i64 mo, .int .i64 yc, .int .i64 yn, .int .i64 yk, .string ym, .string yt, .int .i64 yu, .int .i64 yo, .slice A n c] 54)).drew := ⟨_, rfl⟩
  rw [← hW2] at H2 kk0 ⊢
  clear hW2 x0 x1 x2 x3 H1
  go_wp2_with fail
  (with_reducible refine (HAM.out _).mono ?_)
  rintro r w3 ⟨rfl, hw3⟩
  have hw3 := hw3.symm
  subst hw3
  have HOK := Lib.hid (HO.out.ok j HJ.out)
  have HRE := Lib.hid (HO.out.rel j HJ.out)
  have HOR : Hid ((d.r j).Ok m) := Lib.hid (by rw [← HRE.out]; exact HOK.out)
  have hl64 : (d.l j).2.length ≤ 64 := by have := HOK.out.len; have := HOK.out.m64; omega
  clear kk0 HAM
  have k2 : W2.cell? ⟨w.heap.size, 2, none⟩ = some (.int .i64 op) := H2.out.b0.cell 2; have k3 : W2.cell? ⟨w.heap.size, 3, none⟩ = some (.int .i64 mo) := H2.out.b0.cell 3; have k4 : W2.cell? ⟨w.heap.size, 4, none⟩ = some (.int .i64 yc) := H2.out.b0.cell 4; have k5 : W2.cell? ⟨w.heap.size, 5, none⟩ = some (.int .i64 yn) := H2.out.b0.cell 5; have k6 : W2.cell? ⟨w.heap.size, 6, none⟩ = some (.int .i64 yk) := H2.out.b0.cell 6; have k7 : W2.cell? ⟨w.heap.size, 7, none⟩ = some (.string ym) := H2.out.b0.cell 7; have k8 : W2.cell? ⟨w.heap.size, 8, none⟩ = some (.string yt) := H2.out.b0.cell 8; have k9 : W2.cell? ⟨w.heap.size, 9, none⟩ = some (.int .i64 yu) := H2.out.b0.cell 9; have k10 : W2.cell? ⟨w.heap.size, 10, none⟩ = some (.int .i64 yo) := H2.out.b0.cell 10
  obtain rfl | rfl | rfl | rfl | rfl | rfl | rfl | rfl | rfl : q = 0 ∨ q = 1 ∨ q = 2 ∨ q = 3 ∨ q = 4 ∨ q = 5 ∨ q = 6 ∨ q = 7 ∨ q = 8 := by omega
  · go_wp2_with fail
    go_region_held3 (fun w' => w'.cell? ⟨w.heap.size, 4, none⟩ = some (.int .i64 yc) ∧ w'.cell? ⟨w.heap.size, 5, none⟩ = some (.int .i64 yn) ∧ w'.cell? ⟨w.heap.size, 6, none⟩ = some (.int .i64 yk) ∧ w'.cell? ⟨w.heap.size, 7, none⟩ = some (.string ym) ∧ w'.cell? ⟨w.heap.size, 8, none⟩ = some (.string yt) ∧ w'.cell? ⟨w.heap.size, 9, none⟩ = some (.int .i64 yu) ∧ w'.cell? ⟨w.heap.size, 10, none⟩ = some (.int .i64 yo)) (go_keep)
      (first
        | (go_at_call 22; refine (pAdd (d.ga j) (d.mb j) m (d.l j) ⟨yc, yn, yk, ym, yt, yu, yo⟩ _ (by exact dO_tb H2.out.drew.n1 HJ.out)).mono ?_; rintro r w4 ⟨rfl, t4⟩; have HT4 := Lib.hid (H2.out.drew.at1 (dO_t H2.out.drew.n1 HJ.out t4)); clear t4; have k2 : w4.cell? ⟨w.heap.size, 2, none⟩ = some (.int .i64 op) := HT4.out.b0.cell 2; have k3 : w4.cell? ⟨w.heap.size, 3, none⟩ = some (.int .i64 mo) := HT4.out.b0.cell 3; have k4 : w4.cell? ⟨w.heap.size, 4, none⟩ = some (.int .i64 yc) := HT4.out.b0.cell 4; have k5 : w4.cell? ⟨w.heap.size, 5, none⟩ = some (.int .i64 yn) := HT4.out.b0.cell 5; have k6 : w4.cell? ⟨w.heap.size, 6, none⟩ = some (.int .i64 yk) := HT4.out.b0.cell 6; have k7 : w4.cell? ⟨w.heap.size, 7, none⟩ = some (.string ym) := HT4.out.b0.cell 7; have k8 : w4.cell? ⟨w.heap.size, 8, none⟩ = some (.string yt) := HT4.out.b0.cell 8; have k9 : w4.cell? ⟨w.heap.size, 9, none⟩ = some (.int .i64 yu) := HT4.out.b0.cell 9; have k10 : w4.cell? ⟨w.heap.size, 10, none⟩ = some (.int .i64 yo) := HT4.out.b0.cell 10)
        | (go_at_call 30; refine (rAdd (d.gr j) m (d.vr j) (d.r j) ⟨yc, yn, yk, ym, yt, yu, yo⟩ _ (by exact dO_ref HT4.out.n1 HJ.out) HOR.out).mono ?_; rintro r w5 ⟨rfl, v5, t5⟩; rw [← HRE.out]; have HT5 := Lib.hid (HT4.out.at1 (dO_r HT4.out.n1 HJ.out t5)); clear t5; have k2 : w5.cell? ⟨w.heap.size, 2, none⟩ = some (.int .i64 op) := HT5.out.b0.cell 2; have k3 : w5.cell? ⟨w.heap.size, 3, none⟩ = some (.int .i64 mo) := HT5.out.b0.cell 3; have k4 : w5.cell? ⟨w.heap.size, 4, none⟩ = some (.int .i64 yc) := HT5.out.b0.cell 4; have k5 : w5.cell? ⟨w.heap.size, 5, none⟩ = some (.int .i64 yn) := HT5.out.b0.cell 5; have k6 : w5.cell? ⟨w.heap.size, 6, none⟩ = some (.int .i64 yk) := HT5.out.b0.cell 6; have k7 : w5.cell? ⟨w.heap.size, 7, none⟩ = some (.string ym) := HT5.out.b0.cell 7; have k8 : w5.cell? ⟨w.heap.size, 8, none⟩ = some (.string yt) := HT5.out.b0.cell 8; have k9 : w5.cell? ⟨w.heap.size, 9, none⟩ = some (.int .i64 yu) := HT5.out.b0.cell 9; have k10 : w5.cell? ⟨w.heap.size, 10, none⟩ = some (.int .i64 yo) := HT5.out.b0.cell 10))
    go_wp2_with fail
    refine bodyPost_ret (v := .bool true) (by simp [results, Try.results37, go_sem]) rfl ⟨rfl, f, k, _, Ok_set HO.out (aAdd_ok HOK.out _) (by rw [HRE.out]), Nat.le_refl _, HK.out, HY.out, by omega, HT5.out.dropL⟩
  · obtain ⟨at0, hat⟩ : ∃ x, aAt (d.l j) op = x := ⟨_, rfl⟩
    have HPA := Lib.hid (fun W hW => pAt (d.ga j) (d.mb j) m (d.l j) op W hW)
    have HQA := Lib.hid (fun W hW => qAt (d.gr j) m (d.vr j) (d.r j) op W hW HOR.out)
    rw [hat] at HPA
    rw [← HRE.out, hat] at HQA
    obtain ⟨⟨ec, en, ek, em, et, eu, eo⟩, bt⟩ := at0
    have hcc : (En.mk ec en ek em et eu eo).cells.toArray = #[.int .i64 ec, .int .i64 en, .int .i64 ek, .string em, .string et, .int .i64 eu, .int .i64 eo] := rfl
    simp only [hcc] at HPA HQA
    clear hat hcc
    go_wp2_with (first
      | (go_at_call 27; (with_reducible refine (HPA.out _ (by exact dO_tb H2.out.n1 HJ.out)).mono ?_); rintro r w4 ⟨rfl, c4⟩; have HT4 := Lib.hid ((H2.out.kept c4).alloc (.cells #[.int .i64 ec, .int .i64 en, .int .i64 ek, .string em, .string et, .int .i64 eu, .int .i64 eo] 51)); clear c4; have k2 : (w4.alloc (.cells #[.int .i64 ec, .int .i64 en, .int .i64 ek, .string em, .string et, .int .i64 eu, .int .i64 eo] 51)).cell? ⟨w.heap.size, 2, none⟩ = some (.int .i64 op) := HT4.out.b0.cell 2; have k3 : (w4.alloc (.cells #[.int .i64 ec, .int .i64 en, .int .i64 ek, .string em, .string et, .int .i64 eu, .int .i64 eo] 51)).cell? ⟨w.heap.size, 3, none⟩ = some (.int .i64 mo) := HT4.out.b0.cell 3; have k4 : (w4.alloc (.cells #[.int .i64 ec, .int .i64 en, .int .i64 ek, .string em, .string et, .int .i64 eu, .int .i64 eo] 51)).cell? ⟨w.heap.size, 4, none⟩ = some (.int .i64 yc) := HT4.out.b0.cell 4; have k5 : (w4.alloc (.cells #[.int .i64 ec, .int .i64 en, .int .i64 ek, .string em, .string et, .int .i64 eu, .int .i64 eo] 51)).cell? ⟨w.heap.size, 5, none⟩ = some (.int .i64 yn) := HT4.out.b0.cell 5; have k6 : (w4.alloc (.cells #[.int .i64 ec, .int .i64 en, .int .i64 ek, .string em, .string et, .int .i64 eu, .int .i64 eo] 51)).cell? ⟨w.heap.size, 6, none⟩ = some (.int .i64 yk) := HT4.out.b0.cell 6; have k7 : (w4.alloc (.cells #[.int .i64 ec, .int .i64 en, .int .i64 ek, .string em, .string et, .int .i64 eu, .int .i64 eo] 51)).cell? ⟨w.heap.size, 7, none⟩ = some (.string ym) := HT4.out.b0.cell 7; have k8 : (w4.alloc (.cells #[.int .i64 ec, .int .i64 en, .int .i64 ek, .string em, .string et, .int .i64 eu, .int .i64 eo] 51)).cell? ⟨w.heap.size, 8, none⟩ = some (.string yt) := HT4.out.b0.cell 8; have k9 : (w4.alloc (.cells #[.int .i64 ec, .int .i64 en, .int .i64 ek, .string em, .string et, .int .i64 eu, .int .i64 eo] 51)).cell? ⟨w.heap.size, 9, none⟩ = some (.int .i64 yu) := HT4.out.b0.cell 9; have k10 : (w4.alloc (.cells #[.int .i64 ec, .int .i64 en, .int .i64 ek, .string em, .string et, .int .i64 eu, .int .i64 eo] 51)).cell? ⟨w.heap.size, 10, none⟩ = some (.int .i64 yo) := HT4.out.b0.cell 10)
      | (go_at_call 50; (with_reducible refine (HQA.out _ (by rw [HRE.out]; exact dO_ref HT4.out.n1 HJ.out)).mono ?_); rintro r w5 ⟨rfl, c5⟩; have hbx : w5.heap.size ≠ w4.heap.size := (by have := c5.size; simp at this; omega); have hbx' : w4.heap.size ≠ w5.heap.size := hbx.symm; have HB5 := Lib.hid (((Blk.new w4 #[.int .i64 ec, .int .i64 en, .int .i64 ek, .string em, .string et, .int .i64 eu, .int .i64 eo] 51).chg c5 (fun h => h)).alloc (.cells #[.int .i64 ec, .int .i64 en, .int .i64 ek, .string em, .string et, .int .i64 eu, .int .i64 eo] 51)); have z0 : (w5.alloc (.cells #[.int .i64 ec, .int .i64 en, .int .i64 ek, .string em, .string et, .int .i64 eu, .int .i64 eo] 51)).cell? ⟨w4.heap.size, 0, none⟩ = some (.int .i64 ec) := HB5.out.cell 0; have z1 : (w5.alloc (.cells #[.int .i64 ec, .int .i64 en, .int .i64 ek, .string em, .string et, .int .i64 eu, .int .i64 eo] 51)).cell? ⟨w4.heap.size, 1, none⟩ = some (.int .i64 en) := HB5.out.cell 1; have z2 : (w5.alloc (.cells #[.int .i64 ec, .int .i64 en, .int .i64 ek, .string em, .string et, .int .i64 eu, .int .i64 eo] 51)).cell? ⟨w4.heap.size, 2, none⟩ = some (.int .i64 ek) := HB5.out.cell 2; have z3 : (w5.alloc (.cells #[.int .i64 ec, .int .i64 en, .int .i64 ek, .string em, .string et, .int .i64 eu, .int .i64 eo] 51)).cell? ⟨w4.heap.size, 3, none⟩ = some (.string em) := HB5.out.cell 3; have z4 : (w5.alloc (.cells #[.int .i64 ec, .int .i64 en, .int .i64 ek, .string em, .string et, .int .i64 eu, .int .i64 eo] 51)).cell? ⟨w4.heap.size, 4, none⟩ = some (.string et) := HB5.out.cell 4; have z5 : (w5.alloc (.cells #[.int .i64 ec, .int .i64 en, .int .i64 ek, .string em, .string et, .int .i64 eu, .int .i64 eo] 51)).cell? ⟨w4.heap.size, 5, none⟩ = some (.int .i64 eu) := HB5.out.cell 5; have z6 : (w5.alloc (.cells #[.int .i64 ec, .int .i64 en, .int .i64 ek, .string em, .string et, .int .i64 eu, .int .i64 eo] 51)).cell? ⟨w4.heap.size, 6, none⟩ = some (.int .i64 eo) := HB5.out.cell 6; have HT5 := Lib.hid ((HT4.out.kept c5).alloc (.cells #[.int .i64 ec, .int .i64 en, .int .i64 ek, .string em, .string et, .int .i64 eu, .int .i64 eo] 51)); clear c5))
    refine bodyPost_ret (v := .bool true) (by simp [results, Try.results37, go_sem]) rfl ⟨rfl, f, k, d, HO.out, Nat.le_refl _, HK.out, HY.out, by omega, HT5.out.dropL⟩
  · have hal : (aFr (d.l j) op mo).length ≤ 64 := Nat.le_trans (aFr_len _ _ _) hl64
    have HAR : Hid (aFr (d.l j) op mo = aFr (d.r j) op mo) := Lib.hid (by rw [HRE.out])
    go_wp2_with (first
      | (go_at_call 51; (with_reducible refine (pFrom2 (d.ga j) (d.mb j) m (d.l j) op mo _ (by exact dO_tb H2.out.n1 HJ.out)).mono ?_); rintro r w4 ⟨V4, n4, hn4, rfl, t4⟩; obtain ⟨A4, c4, rfl⟩ := row_slice t4.now; have HN4 := Lib.hid hn4; have hn64 : n4 ≤ 64 := (by omega); clear hn4; have HT4 := Lib.hid (H2.out.pushT t4).flip; clear t4; have k2 : w4.cell? ⟨w.heap.size, 2, none⟩ = some (.int .i64 op) := HT4.out.b0.cell 2; have k3 : w4.cell? ⟨w.heap.size, 3, none⟩ = some (.int .i64 mo) := HT4.out.b0.cell 3; have k4 : w4.cell? ⟨w.heap.size, 4, none⟩ = some (.int .i64 yc) := HT4.out.b0.cell 4; have k5 : w4.cell? ⟨w.heap.size, 5, none⟩ = some (.int .i64 yn) := HT4.out.b0.cell 5; have k6 : w4.cell? ⟨w.heap.size, 6, none⟩ = some (.int .i64 yk) := HT4.out.b0.cell 6; have k7 : w4.cell? ⟨w.heap.size, 7, none⟩ = some (.string ym) := HT4.out.b0.cell 7; have k8 : w4.cell? ⟨w.heap.size, 8, none⟩ = some (.string yt) := HT4.out.b0.cell 8; have k9 : w4.cell? ⟨w.heap.size, 9, none⟩ = some (.int .i64 yu) := HT4.out.b0.cell 9; have k10 : w4.cell? ⟨w.heap.size, 10, none⟩ = some (.int .i64 yo) := HT4.out.b0.cell 10; have HB4 : Hid ((Hp.Own.both (Hp.Own.row 51 7 (.slice A4 n4 c4) n4 (flat (aFr (d.l j) op mo))) (bO g d.av d.bv f k)).holds w4) := Lib.hid (dO_rowbk HT4.out.n1))
      | (go_at_call 52; (with_reducible refine (keep_any g d.av d.bv f k A4 n4 c4 _ _ HB4.out (gd_flat _) (HK.out.no (Nat.le_refl _)) (by omega) (by have := HMN.out; have := HK.out.lob; omega)).mono ?_); rintro r w5 ⟨rfl, ov, wv, y, t5⟩; have HT5 := Lib.hid (HT4.out.at1 (dO_keep HT4.out.n1 t5)); clear t5; have k2 : w5.cell? ⟨w.heap.size, 2, none⟩ = some (.int .i64 op) := HT5.out.b0.cell 2; have k3 : w5.cell? ⟨w.heap.size, 3, none⟩ = some (.int .i64 mo) := HT5.out.b0.cell 3; have k4 : w5.cell? ⟨w.heap.size, 4, none⟩ = some (.int .i64 yc) := HT5.out.b0.cell 4; have k5 : w5.cell? ⟨w.heap.size, 5, none⟩ = some (.int .i64 yn) := HT5.out.b0.cell 5; have k6 : w5.cell? ⟨w.heap.size, 6, none⟩ = some (.int .i64 yk) := HT5.out.b0.cell 6; have k7 : w5.cell? ⟨w.heap.size, 7, none⟩ = some (.string ym) := HT5.out.b0.cell 7; have k8 : w5.cell? ⟨w.heap.size, 8, none⟩ = some (.string yt) := HT5.out.b0.cell 8; have k9 : w5.cell? ⟨w.heap.size, 9, none⟩ = some (.int .i64 yu) := HT5.out.b0.cell 9; have k10 : w5.cell? ⟨w.heap.size, 10, none⟩ = some (.int .i64 yo) := HT5.out.b0.cell 10)
      | (go_at_call 54; (with_reducible refine (qFrom (d.gr j) m (d.vr j) (d.r j) op mo _ (by exact dO_ref HT5.out.n1 HJ.out) HOR.out).mono ?_); rintro r w6 ⟨V6, n6, hn6, rfl, t6⟩; rw [← HAR.out, ← HN4.out] at hn6; subst hn6; rw [← HAR.out] at t6; obtain ⟨A6, c6, rfl⟩ := row_slice t6.now; have HT6 := Lib.hid (HT5.out.pushT t6); clear t6; have HE6 := Lib.hid (EnS.of_row (c := c6) (l := aFr (d.l j) op mo) (by rw [← HN4.out]; exact HT6.out.n0)); have HE5 := Lib.hid (add_ens HT6.out.n11 HK.out).1)
      | (go_at_call 53; (with_reducible refine (same_any A4 A6 _ c4 c6 (aFr (d.l j) op mo) _ HE5.out HE6.out HN4.out.symm (by omega)).mono ?_); rintro r w7 ⟨rfl, hc7⟩; have HT7 := Lib.hid (HT6.out.kept hc7); clear hc7))
    refine bodyPost_ret (v := .bool true) (by simp [results, Try.results37, go_sem]) rfl ⟨rfl, f, _, d, HO.out, Nat.le_refl _, HK.out.add _ _ _ _ _ _, HY.out.add _ _ _ _ (gd_flat _) (by omega), (by show 2 * (k.M + 1) - f ≤ 2 * k.M - f + 2; omega), HT7.out.dropL.dropL⟩
  · obtain ⟨Av, cv, hvr⟩ := rO_slice (dO_ref H2.out.n1 HJ.out)
    have hcap : (d.r j).2.length ≤ cv := rO_cap (by have h := dO_ref H2.out.n1 HJ.out; rw [hvr] at h; exact h)
    rw [← HRE.out] at hcap hvr
    obtain ⟨N, hNl⟩ : ∃ N, (d.l j).2.length = N := ⟨_, rfl⟩
    have HNL := Lib.hid hNl
    rw [hNl] at hcap hl64 hvr
    have HVR := Lib.hid hvr
    have HCQ : Hid (∀ W, (dO m g f k d).holds W → W.cell? ⟨d.gr j, 1, none⟩ = some (.int .i64 (d.l j).1) ∧ W.cell? ⟨d.gr j, 2, none⟩ = some (.slice Av N cv)) := Lib.hid (fun W hW => by
      obtain ⟨-, a1, a2⟩ := rO_cells (dO_ref hW HJ.out)
      rw [HVR.out] at a2
      rw [HRE.out]
      exact ⟨a1, a2⟩)
    obtain ⟨lim, hlim, ham⟩ := am_nat mo (N + 1) (by omega)
    have HAM : Hid (∀ W, Calls Try.prog 32 #[.int .i64 mo, .int .i64 ((N : Int) + 1)] W fun e w' => e = .returned (.int .i64 lim) ∧ w' = W) := Lib.hid (fun W => by
      have h := among_any mo (N + 1) W (by omega) (by omega)
      rw [ham] at h
      have e : (((N + 1 : Nat)) : Int) = (N : Int) + 1 := by omega
      rw [e] at h
      exact h)
    have hwN : IntKind.i64.wrap ((N : Int) + 1) = (N : Int) + 1 := IntWalk.i64_in _ (by omega)
    have q2 : W2.cell? ⟨d.gr j, 2, none⟩ = some (.slice Av N cv) := (HCQ.out _ H2.out.n1).2
    clear hNl ham hvr
    go_wp2_with fail
    go_region_held3 (fun w' => w'.cell? ⟨w.heap.size, 3, none⟩ = some (.int .i64 mo) ∧ w'.cell? ⟨d.gr j, 2, none⟩ = some (.slice Av N cv)) (go_keep)
      (first | (go_at_call 32; (with_reducible refine (HAM.out _).mono ?_); rintro r w4' ⟨rfl, hw4⟩; have hw4 := hw4.symm; subst hw4))
    have H3 := Lib.hid H2.out.drew
    obtain ⟨W3, hW3⟩ : ∃ W, W = W2.drew := ⟨_, rfl⟩
    rw [← hW3] at H3 ⊢
    clear hW3 q2 k2 k3 k4 k5 k6 k7 k8 k9 k10
    obtain ⟨q1, q2⟩ := HCQ.out _ H3.out.n1
    have hga : gaL (d.l j) lim = (d.l j).2.take lim := by
      unfold gaL
      rw [if_neg (by omega), Int.toNat_natCast]
    have HGL : Hid (((d.l j).2.take lim).length = lim) := Lib.hid (by have := HNL.out; rw [List.length_take]; omega)
    have HGA := Lib.hid (fun W hW => gath_any (d.ga j) (d.mb j) m (d.l j) lim W hW)
    rw [hga] at HGA
    have hl0 : (0 : Int) ≤ (lim : Int) := Int.natCast_nonneg _
    have hl1 : (lim : Int) ≤ (cv : Int) := by omega
    clear hga
    go_wp2_with (first
      | (go_at_call 55; (with_reducible refine (HGA.out _ (by exact dO_tb H3.out.n1 HJ.out)).mono ?_); rintro r w4 ⟨V4, n4, hn4, rfl, t4⟩; obtain ⟨A4, c4, rfl⟩ := row_slice t4.now; rw [HGL.out] at hn4; have hn4 := hn4.symm; subst hn4; have HT4 := Lib.hid (H3.out.pushT t4); clear t4; obtain ⟨q1', q2'⟩ := HCQ.out _ HT4.out.n11; have HE4 := Lib.hid (EnS.of_row (c := c4) (l := (d.l j).2.take lim) (by rw [HGL.out]; exact HT4.out.n0)); have HE5 : Hid (EnS w4 Av ((d.l j).2.take lim)) := Lib.hid (by (have h := (dO_ref HT4.out.n11 HJ.out).2.1); (rw [HVR.out, ← HRE.out, HNL.out] at h); exact (EnS.of_row (c := cv) (l := (d.l j).2) (by rw [HNL.out]; exact h)).take lim))
      | (go_at_call 53; (with_reducible refine (same_any A4 Av lim c4 cv ((d.l j).2.take lim) _ HE4.out HE5.out HGL.out (by omega)).mono ?_); rintro r w5 ⟨rfl, hc5⟩; have HT5 := Lib.hid (HT4.out.kept hc5); clear hc5))
    refine bodyPost_ret (v := .bool true) (by simp [results, Try.results37, go_sem]) rfl ⟨rfl, f, k, d, HO.out, Nat.le_refl _, HK.out, HY.out, by omega, HT5.out.dropL.dropL⟩
  · go_wp2_with fail
    go_region_held3 (fun w' => w'.cell? ⟨w.heap.size, 2, none⟩ = some (.int .i64 op)) (go_keep)
      (first
        | (go_at_call 56; (with_reducible refine (pNewest (d.ga j) (d.mb j) m (d.l j) op _ (by exact dO_tb H2.out.drew.n1 HJ.out)).mono ?_); rintro r w4 ⟨rfl, c4⟩; have HT4 := Lib.hid (H2.out.drew.kept c4); clear c4; have k2 : w4.cell? ⟨w.heap.size, 2, none⟩ = some (.int .i64 op) := HT4.out.b0.cell 2; have k3 : w4.cell? ⟨w.heap.size, 3, none⟩ = some (.int .i64 mo) := HT4.out.b0.cell 3; have k4 : w4.cell? ⟨w.heap.size, 4, none⟩ = some (.int .i64 yc) := HT4.out.b0.cell 4; have k5 : w4.cell? ⟨w.heap.size, 5, none⟩ = some (.int .i64 yn) := HT4.out.b0.cell 5; have k6 : w4.cell? ⟨w.heap.size, 6, none⟩ = some (.int .i64 yk) := HT4.out.b0.cell 6; have k7 : w4.cell? ⟨w.heap.size, 7, none⟩ = some (.string ym) := HT4.out.b0.cell 7; have k8 : w4.cell? ⟨w.heap.size, 8, none⟩ = some (.string yt) := HT4.out.b0.cell 8; have k9 : w4.cell? ⟨w.heap.size, 9, none⟩ = some (.int .i64 yu) := HT4.out.b0.cell 9; have k10 : w4.cell? ⟨w.heap.size, 10, none⟩ = some (.int .i64 yo) := HT4.out.b0.cell 10)
        | (go_at_call 57; (with_reducible refine (qNewest (d.gr j) m (d.vr j) (d.r j) op _ (by exact dO_ref HT4.out.n1 HJ.out) (by rw [← HRE.out]; exact hl64)).mono ?_); rintro r w5 ⟨rfl, c5⟩; rw [← HRE.out]; have HT5 := Lib.hid (HT4.out.kept c5); clear c5; have k2 : w5.cell? ⟨w.heap.size, 2, none⟩ = some (.int .i64 op) := HT5.out.b0.cell 2; have k3 : w5.cell? ⟨w.heap.size, 3, none⟩ = some (.int .i64 mo) := HT5.out.b0.cell 3; have k4 : w5.cell? ⟨w.heap.size, 4, none⟩ = some (.int .i64 yc) := HT5.out.b0.cell 4; have k5 : w5.cell? ⟨w.heap.size, 5, none⟩ = some (.int .i64 yn) := HT5.out.b0.cell 5; have k6 : w5.cell? ⟨w.heap.size, 6, none⟩ = some (.int .i64 yk) := HT5.out.b0.cell 6; have k7 : w5.cell? ⟨w.heap.size, 7, none⟩ = some (.string ym) := HT5.out.b0.cell 7; have k8 : w5.cell? ⟨w.heap.size, 8, none⟩ = some (.string yt) := HT5.out.b0.cell 8; have k9 : w5.cell? ⟨w.heap.size, 9, none⟩ = some (.int .i64 yu) := HT5.out.b0.cell 9; have k10 : w5.cell? ⟨w.heap.size, 10, none⟩ = some (.int .i64 yo) := HT5.out.b0.cell 10))
    go_wp2_with fail
    refine bodyPost_ret (v := .bool true) (by simp [results, Try.results37, go_sem]) rfl ⟨rfl, f, k, d, HO.out, Nat.le_refl _, HK.out, HY.out, by omega, HT5.out.dropL⟩
  · go_wp2_with fail
    go_region_held3 (fun w' => w'.cell? ⟨w.heap.size, 2, none⟩ = some (.int .i64 op)) (go_keep)
      (first
        | (go_at_call 23; (with_reducible refine (pCut (d.ga j) (d.mb j) m (d.l j) op _ (by exact dO_tb H2.out.drew.n1 HJ.out)).mono ?_); rintro r w4 ⟨rfl, t4⟩; have HT4 := Lib.hid (H2.out.drew.at1 (dO_t H2.out.drew.n1 HJ.out t4)); clear t4; have k2 : w4.cell? ⟨w.heap.size, 2, none⟩ = some (.int .i64 op) := HT4.out.b0.cell 2; have k3 : w4.cell? ⟨w.heap.size, 3, none⟩ = some (.int .i64 mo) := HT4.out.b0.cell 3; have k4 : w4.cell? ⟨w.heap.size, 4, none⟩ = some (.int .i64 yc) := HT4.out.b0.cell 4; have k5 : w4.cell? ⟨w.heap.size, 5, none⟩ = some (.int .i64 yn) := HT4.out.b0.cell 5; have k6 : w4.cell? ⟨w.heap.size, 6, none⟩ = some (.int .i64 yk) := HT4.out.b0.cell 6; have k7 : w4.cell? ⟨w.heap.size, 7, none⟩ = some (.string ym) := HT4.out.b0.cell 7; have k8 : w4.cell? ⟨w.heap.size, 8, none⟩ = some (.string yt) := HT4.out.b0.cell 8; have k9 : w4.cell? ⟨w.heap.size, 9, none⟩ = some (.int .i64 yu) := HT4.out.b0.cell 9; have k10 : w4.cell? ⟨w.heap.size, 10, none⟩ = some (.int .i64 yo) := HT4.out.b0.cell 10)
        | (go_at_call 33; (with_reducible refine (rCut (d.gr j) m (d.vr j) (d.r j) op _ (by exact dO_ref HT4.out.n1 HJ.out) HOR.out).mono ?_); rintro r w5 ⟨rfl, v5, t5⟩; rw [← HRE.out]; have HT5 := Lib.hid (HT4.out.at1 (dO_r HT4.out.n1 HJ.out t5)); clear t5; have k2 : w5.cell? ⟨w.heap.size, 2, none⟩ = some (.int .i64 op) := HT5.out.b0.cell 2; have k3 : w5.cell? ⟨w.heap.size, 3, none⟩ = some (.int .i64 mo) := HT5.out.b0.cell 3; have k4 : w5.cell? ⟨w.heap.size, 4, none⟩ = some (.int .i64 yc) := HT5.out.b0.cell 4; have k5 : w5.cell? ⟨w.heap.size, 5, none⟩ = some (.int .i64 yn) := HT5.out.b0.cell 5; have k6 : w5.cell? ⟨w.heap.size, 6, none⟩ = some (.int .i64 yk) := HT5.out.b0.cell 6; have k7 : w5.cell? ⟨w.heap.size, 7, none⟩ = some (.string ym) := HT5.out.b0.cell 7; have k8 : w5.cell? ⟨w.heap.size, 8, none⟩ = some (.string yt) := HT5.out.b0.cell 8; have k9 : w5.cell? ⟨w.heap.size, 9, none⟩ = some (.int .i64 yu) := HT5.out.b0.cell 9; have k10 : w5.cell? ⟨w.heap.size, 10, none⟩ = some (.int .i64 yo) := HT5.out.b0.cell 10))
    go_wp2_with fail
    refine bodyPost_ret (v := .bool true) (by simp [results, Try.results37, go_sem]) rfl ⟨rfl, f, k, _, Ok_set HO.out (aCut_ok HOK.out op) (by rw [HRE.out]), Nat.le_refl _, HK.out, HY.out, by omega, HT5.out.dropL⟩
  · have HSW : Hid (EnS W2 A al) := Lib.hid (HS.out.keepL H2.out.chg (fun b off ha h0 => (HF.out b off ha h0).1))
    have HFW : Hid (∀ b off, A = some ⟨b, off, none⟩ → 0 < al.length → ¬ (dO m g f k d).foot b ∧ b < W2.heap.size) := Lib.hid (fun b off ha h0 => ⟨(HF.out b off ha h0).1, Nat.lt_of_lt_of_le (HF.out b off ha h0).2 H2.out.chg.size⟩)
    have k0 : W2.cell? ⟨w.heap.size, 0, none⟩ = some (.int .i64 kd) := H2.out.b0.cell 0
    have k1 : W2.cell? ⟨w.heap.size, 1, none⟩ = some (.int .i64 lg) := H2.out.b0.cell 1
    have k11 : W2.cell? ⟨w.heap.size, 11, none⟩ = some (.slice A n c) := H2.out.b0.cell 11
    go_wp2_with (first
      | (go_at_call 58; (with_reducible refine (desk_reset m g f k d j num kd lg op mo yc yn yk ym yt yu yo A al n c _ H2.out.n1 HO.out HJ.out HSW.out HN.out HFW.out hb hnum).mono ?_); rintro r w4 ⟨rfl, d', hd', hle, t4⟩; have HT4 := Lib.hid (H2.out.at1 t4); have HO4 := Lib.hid hd'; have HLE := Lib.hid hle; clear t4 hd' hle))
    refine bodyPost_ret (v := .bool true) (by simp [results, Try.results37, go_sem]) rfl ⟨rfl, f, k, d', HO4.out, HLE.out, HK.out, HY.out, by omega, HT4.out.dropL⟩
  · go_wp2_with (first
      | (go_at_call 59; (with_reducible refine (desk_clone m g f k d j mo _ H2.out.n1 HO.out HJ.out).mono ?_); rintro r w4 ⟨rfl, d', hd', hle, t4⟩; have HT4 := Lib.hid (H2.out.at1 t4); have HO4 := Lib.hid hd'; have HLE := Lib.hid hle; clear t4 hd' hle))
    refine bodyPost_ret (v := .bool true) (by simp [results, Try.results37, go_sem]) rfl ⟨rfl, f, k, d', HO4.out, HLE.out, HK.out, HY.out, by omega, HT4.out.dropL⟩
  · go_wp2_with (first
      | (go_at_call 43; (with_reducible refine (write_any g d.av d.bv f k _ (dO_bo H2.out.n1) HK.out HY.out (by have := HMN.out; omega)).mono ?_); rintro r w4 ⟨rfl, k', hm, hw', hy', t4⟩; have HT4 := Lib.hid (H2.out.at1 (dO_bk H2.out.n1 t4)); have HK4 := Lib.hid hw'; have HY4 := Lib.hid hy'; have HM4 := Lib.hid hm; clear t4 hw' hy' hm))
    refine bodyPost_ret (v := .bool true) (by simp [results, Try.results37, go_sem]) rfl ⟨rfl, k'.M, k', d, HO.out, Nat.le_refl _, HK4.out, HY4.out, by have := HM4.out; omega, HT4.out.dropL⟩
end Go.Proofs.Ytpaaghbmlenlfaa.Ol
