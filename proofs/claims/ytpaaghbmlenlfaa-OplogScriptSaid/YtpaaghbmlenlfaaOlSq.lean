/- The law's desk: reset. -/
import Derived.Test.YtpaaghbmlenlfaaOlSn
namespace Go.Proofs.Ytpaaghbmlenlfaa.Ol
open Go.Hp.M7
open Go.RowKit Go.Hp
attribute [local go_sem] min2_lean min_two max2_lean max_two
set_option linter.unusedSimpArgs false
set_option linter.unusedVariables false
set_option maxRecDepth 100000
theorem both_apart {A B : Hp.Own} {w : World} (h : (Hp.Own.both A B).holds w) (b : Nat) (h1 : A.foot b) (h2 : B.foot b) : False := h.2.2 b h1 h2
set_option maxHeartbeats 4000000 in
theorem desk_reset (m g f : Nat) (k : KM) (d : DK) (j : Nat) (num : Nat) (kd lg op mo yc yn yk : Int) (ym yt : ByteArray) (yu yo : Int) (A : Option Addr) (al : List En) (n c : Nat) (w : World) (h : (dO m g f k d).holds w) (ho : DK.Ok m d) (hj : j < d.n)
    (hs : EnS w A al) (hn : al.length = n) (hfar : ∀ b off, A = some ⟨b, off, none⟩ → 0 < al.length → ¬ (dO m g f k d).foot b ∧ b < w.heap.size) (hb : n * 72 ≤ 140737488351232) (hnum : num ≤ 1152921504606846976) :
    Calls Try.prog 58 #[.pointer (some ⟨g, 0, none⟩), .int .i64 j, .int .i64 num, .agg #[.int .i64 kd, .int .i64 lg, .int .i64 op, .int .i64 mo, .int .i64 yc, .int .i64 yn, .int .i64 yk, .string ym, .string yt, .int .i64 yu, .int .i64 yo, .slice A n c]] w fun e w' => e = .returned (.bool true) ∧ ∃ d', DK.Ok m d' ∧ d.n ≤ d'.n ∧ Turns w w' (dO m g f k d) (dO m g f k d') := by
  obtain ⟨nn, hnn⟩ : ∃ nn, d.n = nn := ⟨_, rfl⟩
  obtain ⟨ba, ca, bb, cb, hav, hbv, -⟩ := dO_see h hj
  have HAV := Lib.hid hav
  have HBV := Lib.hid hbv
  have HNN := Lib.hid hnn
  have HJ := Lib.hid hj
  have HO := Lib.hid ho
  have HN := Lib.hid hn
  have hjn : (j : Int) < (nn : Int) := by omega
  have hj0 : (0 : Int) ≤ (j : Int) := Int.natCast_nonneg _
  have HL := Lib.hid (fun W hW => lent_any A n c al W hW hn hb)
  have H1 := Lib.hid ((Turns.refl h).push #[.int .i64 kd, .int .i64 lg, .int .i64 op, .int .i64 mo, .int .i64 yc, .int .i64 yn, .int .i64 yk, .string ym, .string yt, .int .i64 yu, .int .i64 yo, .slice A n c] 54)
  have HS : Hid (∀ W O, Turns w W (dO m g f k d) O → EnS W A al) := Lib.hid (fun W O t => hs.keepL t.chg (fun b off ha h0 => (hfar b off ha h0).1))
  have HMK := Lib.hid (fun W => mark_any num W hnum)
  have hmw : (markE num).cells.toArray = #[.int .i64 (-7), .int .i64 (-1 - (num : Int)), .int .i64 0, .string ByteArray.empty, .string ByteArray.empty, .int .i64 0, .int .i64 0] := rfl
  have HSP := Lib.hid (fun (A' : Option Addr) (c' : Nat) W hW => spoil_any A' n c' al (markE num) W hW hb)
  rw [hmw] at HMK HSP
  have z5 : (w.alloc (.cells #[.int .i64 kd, .int .i64 lg, .int .i64 op, .int .i64 mo, .int .i64 yc, .int .i64 yn, .int .i64 yk, .string ym, .string yt, .int .i64 yu, .int .i64 yo, .slice A n c] 54)).cell? ⟨w.heap.size, 11, none⟩ = some (.slice A n c) := H1.out.b0.cell 11
  clear h ho hj hs hn hfar hnn hav hbv hmw
  go_enter Try.func58, Try.ntmps58
  go_wp2_with (first
    | (go_at_call 63; (with_reducible refine (HL.out _ (by exact HS.out _ _ H1.out)).mono ?_); rintro r w2 ⟨gl, dl, hdl, rfl, ht2⟩; have HT2 := Lib.hid (H1.out.pushT ht2); clear ht2))
  have x0 : w2.cell? ⟨g, 0, none⟩ = some (.slice (some ⟨ba, 0, none⟩) nn ca) := (dO_at HT2.out.n11 HJ.out HAV.out HBV.out HNN.out).1; have x1 : w2.cell? ⟨g, 1, none⟩ = some (.slice (some ⟨bb, 0, none⟩) nn cb) := (dO_at HT2.out.n11 HJ.out HAV.out HBV.out HNN.out).2.1; have x2 : w2.cell? ⟨ba, j, none⟩ = some (Ptr (d.ga j)) := (dO_at HT2.out.n11 HJ.out HAV.out HBV.out HNN.out).2.2.1; have x3 : w2.cell? ⟨bb, j, none⟩ = some (Ptr (d.gr j)) := (dO_at HT2.out.n11 HJ.out HAV.out HBV.out HNN.out).2.2.2.1
  have y2 : w2.cell? ⟨w.heap.size, 2, none⟩ = some (.int .i64 op) := HT2.out.b10.cell 2
  have y11 : w2.cell? ⟨w.heap.size, 11, none⟩ = some (.slice A n c) := HT2.out.b10.cell 11
  clear z5
  have HENS := Lib.hid (EnS.of_row (w := w2.drew) (c := dl) (l := al) (by rw [HN.out]; exact lent_row HT2.out.drew.n0 HN.out))
  have HAP : Hid (∀ b off, (some ⟨gl, 0, none⟩ : Option Addr) = some ⟨b, off, none⟩ → 0 < al.length → ¬ (pO (d.ga j) (d.mb j) m (d.l j)).foot b) := Lib.hid (by
    intro b off hb0 h0 hf
    cases hb0
    exact both_apart HT2.out.drew.now gl rfl (Or.inr (Or.inr ⟨.t j, by simp only [DK.fam, if_pos HJ.out]; exact hf⟩)))
  go_region_held3 (fun w' => w'.cell? ⟨g, 0, none⟩ = some (.slice (some ⟨ba, 0, none⟩) nn ca) ∧ w'.cell? ⟨g, 1, none⟩ = some (.slice (some ⟨bb, 0, none⟩) nn cb) ∧ w'.cell? ⟨ba, j, none⟩ = some (Ptr (d.ga j)) ∧ w'.cell? ⟨bb, j, none⟩ = some (Ptr (d.gr j)) ∧ w'.cell? ⟨w.heap.size, 2, none⟩ = some (.int .i64 op) ∧ w'.cell? ⟨w.heap.size, 11, none⟩ = some (.slice A n c)) (go_keep)
    (first
      | (go_at_call 34; (with_reducible refine (pReset (d.ga j) (d.mb j) m (d.l j) op _ al (some ⟨gl, 0, none⟩) dl _ (by exact dO_tb HT2.out.drew.n11 HJ.out) (by rw [HN.out]) HENS.out HAP.out (by have := HN.out; omega)).mono ?_); rintro r w3 ⟨rfl, t3⟩; have HT3 := Lib.hid (HT2.out.drew.at2 (dO_t HT2.out.drew.n11 HJ.out t3)); clear t3; have x0 : w3.cell? ⟨g, 0, none⟩ = some (.slice (some ⟨ba, 0, none⟩) nn ca) := (dO_at HT3.out.n11 HJ.out HAV.out HBV.out HNN.out).1; have x1 : w3.cell? ⟨g, 1, none⟩ = some (.slice (some ⟨bb, 0, none⟩) nn cb) := (dO_at HT3.out.n11 HJ.out HAV.out HBV.out HNN.out).2.1; have x2 : w3.cell? ⟨ba, j, none⟩ = some (Ptr (d.ga j)) := (dO_at HT3.out.n11 HJ.out HAV.out HBV.out HNN.out).2.2.1; have x3 : w3.cell? ⟨bb, j, none⟩ = some (Ptr (d.gr j)) := (dO_at HT3.out.n11 HJ.out HAV.out HBV.out HNN.out).2.2.2.1; have y2 : w3.cell? ⟨w.heap.size, 2, none⟩ = some (.int .i64 op) := HT3.out.b10.cell 2; have y11 : w3.cell? ⟨w.heap.size, 11, none⟩ = some (.slice A n c) := HT3.out.b10.cell 11)
      | (go_at_call 35; (with_reducible refine (rReset (d.gr j) m (d.vr j) (d.r j) op _ al A c _ (by exact dO_ref HT3.out.n11 HJ.out) (by rw [← HO.out.rel j HJ.out]; exact HO.out.ok j HJ.out) (by rw [HN.out]) (by exact HS.out _ _ HT3.out) (by have := HN.out; omega)).mono ?_); rintro r w4 ⟨rfl, v4, t4⟩; rw [← HO.out.rel j HJ.out]; have HT4 := Lib.hid (HT3.out.at2 (dO_r HT3.out.n11 HJ.out t4)); clear t4; have x0 : w4.cell? ⟨g, 0, none⟩ = some (.slice (some ⟨ba, 0, none⟩) nn ca) := (dO_at HT4.out.n11 HJ.out HAV.out HBV.out HNN.out).1; have x1 : w4.cell? ⟨g, 1, none⟩ = some (.slice (some ⟨bb, 0, none⟩) nn cb) := (dO_at HT4.out.n11 HJ.out HAV.out HBV.out HNN.out).2.1; have x2 : w4.cell? ⟨ba, j, none⟩ = some (Ptr (d.ga j)) := (dO_at HT4.out.n11 HJ.out HAV.out HBV.out HNN.out).2.2.1; have x3 : w4.cell? ⟨bb, j, none⟩ = some (Ptr (d.gr j)) := (dO_at HT4.out.n11 HJ.out HAV.out HBV.out HNN.out).2.2.2.1; have y2 : w4.cell? ⟨w.heap.size, 2, none⟩ = some (.int .i64 op) := HT4.out.b10.cell 2; have y11 : w4.cell? ⟨w.heap.size, 11, none⟩ = some (.slice A n c) := HT4.out.b10.cell 11))
  have HOK := HO.out.ok j HJ.out
  have HD4 : Hid (DK.Ok m ((d.setT j (aReset m (d.l j) op al).2).setR j v4 (aReset m (d.r j) op al).2)) := Lib.hid (Ok_set HO.out (aReset_ok HOK op al) (by rw [HO.out.rel j HJ.out]))
  have HST := Lib.hid (still_any gl dl A n c al w4 HT4.out.n0 (HS.out _ _ HT4.out) HN.out hb)
  have HCUT : Hid (Turns w w4 (dO m g f k d) (Hp.Own.both (Hp.Own.row 51 7 (.slice (some ⟨gl, 0, none⟩) n dl) n (flat al)) (dO m g f k ((d.setT j (aReset m (d.l j) op al).2).setR j v4 (aReset m (d.r j) op al).2)))) := Lib.hid (by
    have h1 := HT4.out.drop1
    have h2 : Turns w4 w4 (Hp.Own.row 51 7 (.slice (some ⟨gl, 0, none⟩) (n + 3) dl) (n + 3) (flat (lentL al))) (Hp.Own.row 51 7 (.slice (some ⟨gl, 0, none⟩) n dl) n (flat al)) := ⟨Chg.refl _ _, lent_row h1.n0 HN.out, fun b hb => Or.inl hb⟩
    exact h1.at0 h2)
  have hee : ((aReset m (d.l j) op al).1 == (aReset m (d.l j) op al).1) = true := by simp
  have y11' : w4.cell? ⟨w.heap.size, 11, none⟩ = some (.slice A n c) := HT4.out.b10.cell 11
  go_wp2_with (first
    | (go_at_call 64; (with_reducible refine HST.out.mono ?_); rintro r w5 ⟨rfl, hc5⟩; have HT5 := Lib.hid (HCUT.out.kept hc5); clear hc5)
    | (go_at_call 60; (with_reducible refine (HMK.out _).mono ?_); rintro r w6 ⟨rfl, rfl⟩; have HT6 := Lib.hid (HT5.out.alloc (.cells #[.int .i64 (-7), .int .i64 (-1 - (num : Int)), .int .i64 0, .string ByteArray.empty, .string ByteArray.empty, .int .i64 0, .int .i64 0] 51)))
    | (go_at_call 65; (with_reducible refine (HSP.out _ _ _ (by exact HT6.out.n0)).mono ?_); rintro r w7 ⟨rfl, O', ht7⟩; have HT7 := Lib.hid (HT6.out.at0 ht7); clear ht7))
  exact bodyPost_ret (v := .bool true) (by simp [results, Try.results58, go_sem]) rfl ⟨rfl, _, HD4.out, Nat.le_refl _, HT7.out.dropL⟩
end Go.Proofs.Ytpaaghbmlenlfaa.Ol
