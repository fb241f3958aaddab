/- The law's items laid down: laid. -/
import Derived.Test.YtkpgdonpmfebaaaBlD
namespace Go.Proofs.Ytkpgdonpmfebaaa.Bt
open Go.RowKit Go.Hp
attribute [local go_sem] min2_lean min_two max2_lean max_two
set_option linter.unusedSimpArgs false
set_option linter.unusedVariables false
set_option maxRecDepth 100000
theorem Src.far {w w' : World} {b off n c size : Nat} {cs : List Value} {S : Nat → Prop} (h : Src w (.slice (some ⟨b, off, none⟩) n c) n size cs) (hc : Chg S w w') (hS : ¬ S b) : Src w' (.slice (some ⟨b, off, none⟩) n c) n size cs := by
  refine ⟨h.1, ?_⟩
  rcases h.2 with ⟨c', h1, _⟩ | ⟨ad, c', h1, hcell⟩
  · cases h1
  · have hA : ad = ⟨b, off, none⟩ := by have := (Value.slice.inj h1).1; exact (Option.some.inj this).symm
    subst hA
    refine Or.inr ⟨_, c, rfl, fun j u hu => ?_⟩
    have hb : ((⟨b, off, none⟩ : Addr).add j).block = b := by unfold Addr.add; split <;> rfl
    have hcj := hcell j u hu
    have hlt := block_lt_of_cell hcj
    exact (hc.cell hlt (by rw [hb]; exact hS)).trans hcj
theorem wrote_bytes (s : WrS) (w : World) (hs : s.own.holds w) (hb : s.bad = false) (n : Int) (b : Bool) (x : ByteArray) (c b0 : Nat) (hb0 : b0 = w.heap.size) (hl : s.bs.length + x.size + 10 ≤ 140737488355328) :
    Calls Try.prog 68 #[.pointer (some ⟨s.g, 0, none⟩), .slice (some ⟨b0, 0, none⟩) x.size c] (Lib.bytesWorld w 5 x) (Wrote s ⟨5, n, b, x⟩ w) := by
  subst hb0
  have hk := Turns.of_kept hs (bytesWorld_chg w 5 x)
  have hsz : x.data.toList.length = x.size := by rw [Array.length_toList]; rfl
  have hsrc := bytesWorld_src w 5 x c
  rw [hsz] at hsrc
  refine (bytes_ok s _ _ _ x.data.toList _ hk.now hsrc (fun w' hc => ?_) hb (by omega)).mono ?_
  · refine Src.far hsrc hc (fun hf => ?_)
    have := s.own.lt hs _ hf
    omega
  · rintro e w' ⟨rfl, v, ht⟩
    rw [hsz, List.append_assoc] at ht
    exact ⟨rfl, v, hk.trans ht⟩
theorem bool_wrote (s : WrS) (x : ItA) : True := trivial
theorem stop_ {p : Prop} (h : Hid p) : p := Hid.out h
theorem done_len (s : WrS) (w : World) (m : Nat) (hm : s.bs.length = m) (hs : s.own.holds w) (hb : s.bad = false) (hl : m ≤ 140737488355328) :
    Calls Try.prog 18 #[.pointer (some ⟨s.g, 0, none⟩)] w fun r w' => ∃ A c, r = .returned (.tuple #[.slice A m c, .int .i64 0]) ∧ Turns w w' Own.emp (Own.row 5 1 (.slice A m c) m (s.bs.map bv)) := by
  subst hm
  refine (done_ok s w hs hb hl).mono ?_
  rintro r w' ⟨o, rfl, ht, _⟩
  obtain ⟨A, c, rfl⟩ := row_slice ht.now
  exact ⟨A, c, rfl, ht⟩
set_option maxHeartbeats 4000000 in
theorem laid_any (A : Option Addr) (its : List ItA) (cap : Nat) (w : World) (hi : ItemsAt w A its) (ht : tot its < 2147483648) :
    Calls Try.prog 36 #[.slice A its.length cap] w fun r w' => ∃ o v, r = .returned (.tuple #[o, v, .bool true]) ∧
      Turns w w' Own.emp (Own.both (Own.row 5 1 o (encs its).length ((encs its).map bv)) (Own.row 3 1 v its.length (endsC its its.length))) := by
  obtain ⟨iu, hiu, hzau, hzbu, hzcu⟩ := info_parts Try.info5
  obtain ⟨ij, hij, hzaj, hzbj, hzcj⟩ := info_parts Try.info3
  have hcv := fun (w : World) (x : ByteArray) => Lib.run_convert_string_bytes (P := Try.prog) w 9 38 5 x Try.underlying9 Try.underlying38 Try.underlying5
  have htl := tot_len its
  have hel : ∀ i, i ≤ its.length → (encs (its.take i)).length ≤ 10 * tot its := fun i hil => Nat.le_trans (encs_len its (fun i h => (hi i h).1) i hil) (Nat.mul_le_mul_left _ (tot_le its i))
  have HEL := Lib.hid hel
  obtain ⟨T, hT⟩ : ∃ T, tot its = T := ⟨_, rfl⟩
  rw [hT] at HEL ht htl
  have HTT := Lib.hid hT
  obtain ⟨L, hL⟩ : ∃ L, its.length = L := ⟨_, rfl⟩
  rw [hL] at HEL htl ⊢
  have HI := Lib.hid hi
  have HL := Lib.hid hL
  clear hi hel hT hL
  have HT0 := Lib.hid ht
  have hL0 : L < 2147483648 := by omega
  have HTL := Lib.hid htl
  clear ht htl
  go_enter Try.func36, Try.ntmps36
  go_wp2_with (go_at_call 15; refine (newW_any _).mono ?_; rintro r w0 ⟨rfl, ht0⟩; have HW0 := Lib.hid ht0; clear ht0)
  generalize w.heap.size = g at *
  go_loopw [6, 7] (fun x6 x7 wr => ∃ (i : Nat) (v : Value) (Au : Option Addr) (cu : Nat), x7 = .int .i64 i ∧ x6 = .slice Au i cu ∧ i ≤ L ∧ Turns w wr Own.emp (Own.both (WrS.mk g v (encs (its.take i)) false).own (Own.row 3 1 (.slice Au i cu) i (endsC its i)))) (fun _ x7 _ => L - (intOf x7).toNat)
  case atStart => exact ⟨0, _, _, _, rfl, rfl, Nat.zero_le _, HW0.out.addNil _ _⟩
  case round =>
    obtain ⟨i, v, Au, cu, rfl, rfl, hil, ht⟩ := hrel
    have HT := Lib.hid ht
    have HIL := Lib.hid hil
    clear ht
    by_cases h : i < L
    · have hd : decide (i < L) = true := by simpa using h
      obtain ⟨hf, b, off, rfl, hb, hc⟩ := HI.out i (by rw [HL.out]; exact h)
      have HTK := Lib.hid (encs_take its i (by rw [HL.out]; exact h))
      have HRF := Lib.hid (right_fits hf)
      have HTo := Lib.hid (tot_take its i (by rw [HL.out]; exact h))
      have HTo2 := Lib.hid (tot_le its (i + 1))
      generalize its[i]'(by rw [HL.out]; exact h) = it at *
      have hzl : it.s.size < 2147483648 := by have h1 := HTo.out; have h2 := HTo2.out; have h3 := HTT.out; have h4 := HT0.out; omega
      have HR := Lib.hid (fun W => right_any it W hf.2.1.1 hf.2.1.2)
      have hrs : it.right.s.size < 2147483648 := by rw [HRF.out.2.1]; exact hzl
      obtain ⟨q, hq⟩ : ∃ q, it.right = q := ⟨_, rfl⟩
      rw [hq] at HR HRF HTK hrs
      obtain ⟨k, n, bb, z⟩ := q
      simp only [] at hrs
      obtain ⟨⟨hk1, hk2⟩, ⟨hn1, hn2⟩, _⟩ := HRF.out.1
      have hk3 := HRF.out.2.2.1
      have hk4 := HRF.out.2.2.2.1
      have hk5 := HRF.out.2.2.2.2
      simp only [] at hk1 hk2 hn1 hn2 hk3 hk4 hk5
      have hBl := HEL.out i (by omega)
      have hBl2 := HEL.out (i + 1) (by omega)
      rw [HTK.out] at hBl2
      have hb1 : (encs (List.take i its)).length ≤ 21474836480 := by have := HT0.out; omega
      have hb2 : (encs (List.take i its) ++ enc ⟨k, n, bb, z⟩).length ≤ 21474836480 := by have := HT0.out; omega
      have hcw : ∀ p u, w.cell? p = some u → wr.cell? p = some u := fun p u hp => (HT.out.chg.cell (block_lt_of_cell hp) (fun h => h)).trans hp
      have c0 : wr.cell? ⟨b, off + i * 4, none⟩ = some (.int .i64 it.kind) := hcw _ _ (hc 0 _ rfl)
      have c1 : wr.cell? ⟨b, off + i * 4 + 1, none⟩ = some (.int .i64 it.n) := hcw _ _ (hc 1 _ rfl)
      have c2 : wr.cell? ⟨b, off + i * 4 + 2, none⟩ = some (.bool it.v) := hcw _ _ (hc 2 _ rfl)
      have c3 : wr.cell? ⟨b, off + i * 4 + 3, none⟩ = some (.string it.s) := hcw _ _ (hc 3 _ rfl)
      obtain ⟨B, hB⟩ : ∃ B, encs (List.take i its) = B := ⟨_, rfl⟩
      rw [hB] at HT HTK hb1 hb2
      have HHB := Lib.hid hB
      clear hB hBl hBl2 hc hcw hf hq
      have hi2 : i < 2147483648 := by omega
      obtain ⟨m, hm⟩ : ∃ m, (B ++ enc ⟨k, n, bb, z⟩).length = m := ⟨_, rfl⟩
      rw [hm] at hb2
      have HM := Lib.hid hm
      clear hm
      have hk : k = 1 ∨ k = 2 ∨ k = 3 ∨ k = 4 ∨ k = 5 := by omega
      obtain ⟨ik, in_, ib, is_⟩ := it
      simp only [] at hzl c0 c1 c2 c3
      simp only [ItA.cells] at HR
      have HN := Lib.hid hk5
      clear hk5 hk1 hk2 hk3 hk4
      rcases hk with rfl | rfl | rfl | rfl | rfl
      all_goals
        go_wp2_with (first
          | (go_at_call 33; refine (HR.out _).mono ?_; rintro r w1 ⟨rfl, hc1⟩; have HC1 := Lib.hid (HT.out.kept hc1); clear hc1)
          | (go_at_call 59; refine (wrote_num (WrS.mk g v B false) _ (HC1.out.alloc _).now.1 rfl n bb z (by first | exact HN.out rfl | exact HN.out trivial) (by omega) (by simp only []; omega)).mono ?_; rintro r w2 ⟨rfl, v2, ht2⟩; have HW2 := Lib.hid ((HC1.out.alloc _).trans (Turns.left (HC1.out.alloc _).now ht2)); clear ht2)
          | (go_at_call 60; refine (wrote_signed (WrS.mk g v B false) _ (HC1.out.alloc _).now.1 rfl n bb z (by omega) (by omega) (by simp only []; omega)).mono ?_; rintro r w2 ⟨rfl, v2, ht2⟩; have HW2 := Lib.hid ((HC1.out.alloc _).trans (Turns.left (HC1.out.alloc _).now ht2)); clear ht2)
          | (go_at_call 65; refine (wrote_bool (WrS.mk g v B false) _ (HC1.out.alloc _).now.1 rfl n bb z (by simp only []; omega)).mono ?_; rintro r w2 ⟨rfl, v2, ht2⟩; have HW2 := Lib.hid ((HC1.out.alloc _).trans (Turns.left (HC1.out.alloc _).now ht2)); clear ht2)
          | (go_at_call 61; refine (wrote_text (WrS.mk g v B false) _ (HC1.out.alloc _).now.1 rfl n bb z (by simp only []; omega)).mono ?_; rintro r w2 ⟨rfl, v2, ht2⟩; have HW2 := Lib.hid ((HC1.out.alloc _).trans (Turns.left (HC1.out.alloc _).now ht2)); clear ht2)
          | (go_at_call 68; refine (wrote_bytes (WrS.mk g v B false) _ (HC1.out.alloc _).now.1 rfl n bb z _ _ (by simp) (by simp only []; omega)).mono ?_; rintro r w2 ⟨rfl, v2, ht2⟩; have HW2 := Lib.hid ((HC1.out.alloc _).trans (Turns.left (HC1.out.alloc _).now ht2)); clear ht2)
          | (go_at_call 18; refine (done_len (WrS.mk g v2 (B ++ enc ⟨_, n, bb, z⟩) false) _ m HM.out HW2.out.now.1 rfl (by omega)).mono ?_; rintro r w3 ⟨Ao, co, rfl, ht3⟩; have HW3 := Lib.hid (HW2.out.kept ht3.chg); clear ht3)
          | (at_builtin; refine wpList_app1 _ rfl (.tmp 67) (.tmp 70) 57 rfl 3 ij (.int .i64 0) 1 8 Try.underlying57 hij hzaj hzbj hzcj rfl (by decide) (.slice Au i cu) i (endsC its i) rfl _ _ _ rfl (by first | rfl | simp) HW3.out.now.2.1 rfl (by simp [Value.oneCell']) (by simp only [maxLen]; omega) (by omega) ?_; intro g4 c4 w4 hc4 ht4; have HT4 := Lib.hid ht4; clear ht4))
        go_roundw
        case rel =>
          refine ⟨i + 1, v2, _, _, by simp, rfl, by have := HIL.out; omega, ?_⟩
          have h2 := HW3.out.trans (Turns.rightT HW3.out.now HT4.out)
          rw [endsC_succ, HTK.out, HM.out]
          exact h2
        case measure => simp [intOf]; omega
    · have hd : decide (i < L) = false := by simpa using h
      obtain rfl : i = L := by have := HIL.out; omega
      have htk : its.take i = its := List.take_of_length_le (by rw [HL.out]; exact Nat.le_refl _)
      have hel := HEL.out i (Nat.le_refl _)
      have h0 := HT0.out
      rw [htk] at HT hel
      obtain ⟨m, hm⟩ : ∃ m, (encs its).length = m := ⟨_, rfl⟩
      rw [hm] at hel
      have hb2 : m ≤ 21474836480 := by omega
      have HM := Lib.hid hm
      clear hm htk hel h0 HEL HTL
      go_wp2_with (go_at_call 18; refine (done_len (WrS.mk g v (encs its) false) _ m HM.out HT.out.now.1 rfl (by omega)).mono ?_; rintro r w3 ⟨Ao, co, rfl, ht3⟩; have HW3 := Lib.hid ((HT.out.dropL).trans (Turns.add HT.out.dropL.now ht3)); clear ht3)
      go_ret3
      refine ⟨_, _, rfl, ?_⟩
      rw [HM.out]
      exact HW3.out
end Go.Proofs.Ytkpgdonpmfebaaa.Bt
