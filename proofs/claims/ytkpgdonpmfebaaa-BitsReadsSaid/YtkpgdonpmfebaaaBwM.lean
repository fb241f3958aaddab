/- BitsWrites, walked. -/
import Derived.Test.YtkpgdonpmfebaaaBwL
import Derived.Deep.RegionHeld3
namespace Go.Proofs.Ytkpgdonpmfebaaa.Bt
open Go.RowKit Go.Hp
attribute [local go_sem] min2_lean min_two max2_lean max_two
set_option linter.unusedSimpArgs false
set_option linter.unusedVariables false
set_option maxRecDepth 100000
theorem fam_move {ι : Type} [DecidableEq ι] {F : ι → Hp.Own} {w : World} (h : (Own.fam F).holds w) {i j : ι} (hij : i ≠ j) (hj : F j = Hp.Own.emp) : Turns w w (Own.fam F) (Own.fam (upd (upd F i Hp.Own.emp) j (F i))) := by
  have hv : ∀ k b, (upd (upd F i Hp.Own.emp) j (F i) k).foot b → (k = j ∧ (F i).foot b) ∨ (k ≠ j ∧ k ≠ i ∧ (F k).foot b) := fun k b hk => by
    unfold upd at hk
    split at hk
    · rename_i e; exact Or.inl ⟨e, hk⟩
    · split at hk
      · exact hk.elim
      · rename_i e1 e2; exact Or.inr ⟨e1, e2, hk⟩
  refine ⟨Chg.refl _ _, ⟨fun k => ?_, fun k l b hk hl => ?_⟩, fun b hb => ?_⟩
  · unfold upd
    split
    · exact h.1 i
    · split
      · trivial
      · exact h.1 k
  · rcases hv k b hk with ⟨e1, f1⟩ | ⟨e1, e2, f1⟩ <;> rcases hv l b hl with ⟨d1, f2⟩ | ⟨d1, d2, f2⟩
    · rw [e1, d1]
    · exact absurd (h.2 i l b f1 f2).symm d2
    · exact absurd (h.2 k i b f1 f2) e2
    · exact h.2 k l b f1 f2
  · obtain ⟨k, hk⟩ := hb
    rcases hv k b hk with ⟨_, f1⟩ | ⟨_, _, f1⟩
    · exact Or.inl ⟨i, f1⟩
    · exact Or.inl ⟨k, f1⟩
theorem po_pair {s x : Nat → WrS} {K : Nat} {w W : World} {O S C D X : Hp.Own} {y z : WrS} (h : Turns w W O (po s x K S y.own z.xown C D X)) : Turns w W O (po (put s K y) (put x K z) (K + 1) S Hp.Own.emp Hp.Own.emp C D X) := by
  have t1 := Turns.fam2 h.now (i := JP.a) (j := JP.b) (by simp) rfl rfl (Turns.refl (show (pw y z).holds W from Own.fam_both (i := JP.a) (j := JP.b) h.now (by simp) rfl rfl))
  have t2 := fam_move t1.now (i := JP.a) (j := JP.p K) (by simp) (by simp [upd, pf])
  refine (h.trans (t1.trans t2)).to (Own.fam_as fun i => ?_)
  cases i with
  | p j =>
    by_cases hj : j = K
    · subst hj; simp [upd, pf, put, pw]
    · simp only [upd, pf, put, JP.p.injEq, if_neg hj, reduceCtorEq, if_false]
      by_cases h2 : j < K
      · rw [if_pos h2, if_pos (by omega)]
      · rw [if_neg h2, if_neg (by omega)]
  | a => simp [upd, pf]
  | b => simp [upd, pf]
  | _ => rfl
theorem new_ex (w : World) : Calls Try.prog 15 #[] w fun r w' => ∃ g, r = .returned (.pointer (some ⟨g, 0, none⟩)) ∧ Turns w w' Hp.Own.emp (WrS.mk g (.slice none 0 0) [] false).own := (newW_any w).mono fun _ _ h => ⟨_, h.1, h.2⟩
theorem xnew_ex (w : World) : Calls Try.prog 16 #[] w fun r w' => ∃ g, r = .returned (.pointer (some ⟨g, 0, none⟩)) ∧ Turns w w' Hp.Own.emp (WrS.mk g (.slice none 0 0) [] false).xown := (xnewW_any w).mono fun _ _ h => ⟨_, h.1, h.2⟩
theorem Pairs.new {s x : Nat → WrS} {cs ds : Array Value} {K : Nat} (h : Pairs s x cs ds K 0) (hc : K < cs.size) (hd : K < ds.size) (g g' : Nat) (v v' : Value) :
    Pairs (Bt.put s K (WrS.mk g v [] false)) (Bt.put x K (WrS.mk g' v' [] false)) (cs.setIfInBounds K (.pointer (some ⟨g, 0, none⟩))) (ds.setIfInBounds K (.pointer (some ⟨g', 0, none⟩))) (K + 1) 0 := by
  refine ⟨fun j hj => ?_, fun j hj => ?_, fun j hj => ?_, fun j hj => ?_, fun j hj => ?_⟩ <;> unfold Bt.put <;> by_cases e : j = K
  · rw [if_pos e, if_pos e]
  · rw [if_neg e, if_neg e]; exact h.bs j (by omega)
  · rw [if_pos e, if_pos e]
  · rw [if_neg e, if_neg e]; exact h.bad j (by omega)
  · subst e; rw [if_pos rfl, Array.getElem?_setIfInBounds_self_of_lt hc]
  · rw [if_neg e, Array.getElem?_setIfInBounds_ne (fun h => e h.symm)]; exact h.at_ j (by omega)
  · subst e; rw [if_pos rfl, Array.getElem?_setIfInBounds_self_of_lt hd]
  · rw [if_neg e, Array.getElem?_setIfInBounds_ne (fun h => e h.symm)]; exact h.xat j (by omega)
  · rw [if_pos e]; exact Nat.le_refl _
  · rw [if_neg e]; exact h.len j (by omega)
set_option maxHeartbeats 4000000 in
theorem bitsWrites_any (A : Option Addr) (its : List ItA) (cap : Nat) (w : World) (hi : ItemsAt w A its) (hl : its.length * 40 ≤ 140737488351232) :
    Calls Try.prog 5 #[.slice A its.length cap] w fun e w' => e = .returned (.bool true) ∧ Chg (fun _ => False) w w' := by
  have HB := Lib.hid (beyond_any A its cap w hi hl)
  have HTL := Lib.hid (tot_len its)
  have HI := Lib.hid hi
  obtain ⟨L, hL⟩ : ∃ L, its.length = L := ⟨_, rfl⟩
  rw [hL] at HB hl HTL ⊢
  have HL := Lib.hid hL
  clear hi hL
  go_enter Try.func5, Try.ntmps5
  go_wp2_with (first
    | (go_at_call 14; refine HB.out.mono ?_; rintro r w1 ⟨b, rfl, hb, rfl⟩; cases b; (have HBB := Lib.hid (hb rfl); clear hb))
    | (go_at_call 13; refine (shown_any _).mono ?_; rintro r w2 ⟨rfl, hc⟩; have HC := Lib.hid hc; clear hc))
  rotate_left
  · go_ret
    exact ⟨rfl, Chg.refl _ _⟩
  have HT0 : Hid (Turns w ((w2.alloc (.cells #[.pointer none, .pointer none] 26)).alloc (.cells #[.pointer none, .pointer none] 28)) Hp.Own.emp (po (fun _ => ⟨0, .slice none 0 0, [], false⟩) (fun _ => ⟨0, .slice none 0 0, [], false⟩) 0 Hp.Own.emp Hp.Own.emp Hp.Own.emp Hp.Own.emp (Hp.Own.blk w2.heap.size #[.pointer none, .pointer none] 26) (Hp.Own.blk (w2.heap.size + 1) #[.pointer none, .pointer none] 28))) := by
    have e : (w2.alloc (.cells #[.pointer none, .pointer none] 26)).heap.size = w2.heap.size + 1 := by simp
    have h2 := Turns.blk_new (w2.alloc (.cells #[.pointer none, .pointer none] 26)) #[.pointer none, .pointer none] 28
    rw [e] at h2
    exact Lib.hid (po_xb (po_wb (po_emp HC.out) (Turns.blk_new w2 #[.pointer none, .pointer none] 26)) h2)
  obtain ⟨bw, hbw⟩ : ∃ bw, w2.heap.size = bw := ⟨_, rfl⟩
  rw [hbw] at HT0 ⊢
  clear hbw
  go_loopw [6] (fun x6 wr => ∃ (k : Nat) (s x : Nat → WrS) (cs ds : Array Value), x6 = .int .i64 k ∧ k ≤ 2 ∧ cs.size = 2 ∧ ds.size = 2 ∧ Pairs s x cs ds k 0 ∧ Turns w wr Hp.Own.emp (po s x k Hp.Own.emp Hp.Own.emp Hp.Own.emp Hp.Own.emp (Hp.Own.blk bw cs 26) (Hp.Own.blk (bw + 1) ds 28))) (fun x6 _ => 2 - (intOf x6).toNat)
  case atStart => exact ⟨0, _, _, _, _, rfl, by omega, rfl, rfl, ⟨fun k hk => absurd hk (by omega), fun k hk => absurd hk (by omega), fun k hk => absurd hk (by omega), fun k hk => absurd hk (by omega), fun k hk => absurd hk (by omega)⟩, HT0.out⟩
  case round =>
    clear HT0
    obtain ⟨k, s, x, cs, ds, rfl, hk2, hcs, hds, hp, ht⟩ := hrel
    have HT := Lib.hid ht
    have HP := Lib.hid hp
    have HCS := Lib.hid hcs
    have HDS := Lib.hid hds
    clear ht hp hcs hds
    by_cases hlt : k < 2
    · have hd : decide ((k : Int) < 2) = true := by simp; omega
      have hd' : decide (k < 2) = true := by simp; omega
      obtain ⟨u0, hu0⟩ : ∃ u, cs[k]? = some u := ⟨_, Array.getElem?_eq_getElem (by rw [HCS.out]; exact hlt)⟩
      obtain ⟨u1, hu1⟩ : ∃ u, ds[k]? = some u := ⟨_, Array.getElem?_eq_getElem (by rw [HDS.out]; exact hlt)⟩
      have HU0 := Lib.hid hu0
      have HU1 := Lib.hid hu1
      clear hu0 hu1
      go_wp2_with (first
        | (go_at_call 15; (with_reducible refine (new_ex _).mono ?_); rintro r w5 ⟨gn, rfl, ht5⟩; have HT5 := Lib.hid (po_a HT.out ht5); clear ht5; have hb5 : Blk w5 bw cs 26 := po_D HT5.out; have c5 := hb5.cell k; rw [HU0.out] at c5; have f5 := hb5.frozen k; have HB5 := Lib.hid hb5; clear hb5)
        | (go_at_call 16; (with_reducible refine (xnew_ex _).mono ?_); rintro r w7 ⟨gx, rfl, ht7⟩; have HT6 := Lib.hid (po_wb HT5.out (Turns.blk_set HB5.out k (.pointer (some ⟨gn, 0, none⟩)))); have HT7 := Lib.hid (po_b HT6.out ht7); clear ht7; have hb7 : Blk w7 bw (cs.setIfInBounds k (.pointer (some ⟨gn, 0, none⟩))) 26 := po_D HT7.out; have c7 := hb7.cell k; rw [Array.getElem?_setIfInBounds_self_of_lt (by rw [HCS.out]; exact hlt)] at c7; have hd7 : Blk w7 (bw + 1) ds 28 := po_X HT7.out; have d7 := hd7.cell k; rw [HU1.out] at d7; have g7 := hd7.frozen k; have HD7 := Lib.hid hd7; clear hb7 hd7))
      go_roundw
      case rel =>
        exact ⟨k + 1, _, _, _, _, by simp, by omega, by rw [Array.size_setIfInBounds]; exact HCS.out, by rw [Array.size_setIfInBounds]; exact HDS.out, HP.out.new (by rw [HCS.out]; exact hlt) (by rw [HDS.out]; exact hlt) gn gx (.slice none 0 0) (.slice none 0 0), po_pair (po_xb HT7.out (Turns.blk_set HD7.out k (.pointer (some ⟨gx, 0, none⟩))))⟩
      case measure => simp [intOf]; omega
    · have hd : decide ((k : Int) < 2) = false := by simp; omega
      have hd' : decide (k < 2) = false := by simp; omega
      have e2 : k = 2 := by omega
      rw [e2] at HT HP
      clear e2
      go_wp2_with fail
      have HT1 := Lib.hid (po_s HT.out (KS.new 34 38 5 (Turns.blk_new wr #[.slice none 0 0, .slice none 0 0] 34)))
      obtain ⟨gs, hgs⟩ : ∃ gs, wr.heap.size = gs := ⟨_, rfl⟩
      have HK0 : Hid (Kb.Kn (KS.empty wr.heap.size) gs 0 21474836480) := Lib.hid ⟨hgs, fun i hi => absurd hi (by omega)⟩
      rw [hgs]
      clear hgs
      go_loopw [8] (fun x8 wr => ∃ (i N : Nat) (s x : Nat → WrS) (kk : KS), x8 = .int .i64 i ∧ i ≤ L + 1 ∧ N ≤ 2 * i ∧ Pairs s x cs ds 2 (10 * tot (its.take i)) ∧ Kb.Kn kk gs N 21474836480 ∧ Turns w wr Hp.Own.emp (po s x 2 (Kb.own kk N 0) Hp.Own.emp Hp.Own.emp Hp.Own.emp (Hp.Own.blk bw cs 26) (Hp.Own.blk (bw + 1) ds 28))) (fun x8 _ => L + 1 - (intOf x8).toNat)
      case atStart => exact ⟨0, 0, s, x, KS.empty wr.heap.size, rfl, by omega, by omega, HP.out.wide (Nat.zero_le _), HK0.out, HT1.out⟩
      case round =>
        clear HT1 HK0 HT HP
        obtain ⟨i, N, s, x, kk, rfl, hiL, hN, hp, hk, ht⟩ := hrel
        have HT := Lib.hid ht
        have HP := Lib.hid hp
        have HK := Lib.hid hk
        clear ht hp hk
        have hLb : L < 2147483648 := by have := HTL.out; have := HBB.out; omega
        by_cases hle : i ≤ L
        · have hd1 : decide ((i : Int) ≤ (L : Int)) = true := by simp; omega
          have hd1' : decide (i ≤ L) = true := by simp; omega
          obtain ⟨k, hk⟩ : ∃ k, i % 2 = k := ⟨_, rfl⟩
          have hk2 : k < 2 := by omega
          have hmod : (i : Int) % 2 = (k : Int) := by omega
          have hmod' : (i : Int).tmod 2 = (k : Int) := by rw [Int.tmod_eq_emod_of_nonneg (by omega)]; exact hmod
          have HMOD := Lib.hid hk
          have hdk : decide ((k : Int) < 2) = true := by simp; omega
          have hdk' : decide (k < 2) = true := by simpa using hk2
          have hk2i : (k : Int) < 2 := by omega
          clear hk
          by_cases hw : ∃ h : i < its.length, its[i].kind ≠ 6
          · obtain ⟨hil, hk6⟩ := hw
            have hlt : i < L := by rw [← HL.out]; exact hil
            have hd2 : decide ((i : Int) < (L : Int)) = true := by simp; omega
            have hd2' : decide (i < L) = true := by simp; omega
            obtain ⟨hf, b, off, rfl, c0, c1, c2, c3⟩ := HI.out.load HT.out.chg i hil
            have hbl : b < w.heap.size := by
              obtain ⟨_, b2, off2, hA2, hb2, _⟩ := HI.out i hil
              cases hA2
              exact hb2
            have HTK := Lib.hid (tot_take its i hil)
            have HTM := Lib.hid (tot_le its (i + 1))
            have HFT := Lib.hid hf
            have HWR := Lib.hid (fun W h => write_any (s k) (x k) its[i] W h (HP.out.bs k hk2) (HP.out.bad k hk2) hf (by have := HP.out.len k hk2; have := HTK.out; have := HTM.out; have := HBB.out; omega))
            unfold WrOk at HWR
            generalize its[i] = it at *
            obtain ⟨ik, in_, ib, is_⟩ := it
            simp only [] at c0 c1 c2 c3 hk6
            simp only [ItA.cells] at HWR
            have q6 : decide (ik = 6) = false := by simpa using hk6
            have q6' : (ik == 6) = false := by simpa using hk6
            have q6'' : (ik != 6) = true := by simpa using hk6
            have e0 : wr.cell? ⟨bw, k, none⟩ = some (.pointer (some ⟨(s k).g, 0, none⟩)) := ((po_D HT.out : Blk wr bw cs 26).cell k).trans (HP.out.at_ k hk2)
            have e1 : wr.cell? ⟨bw + 1, k, none⟩ = some (.pointer (some ⟨(x k).g, 0, none⟩)) := ((po_X HT.out : Blk wr (bw + 1) ds 28).cell k).trans (HP.out.xat k hk2)
            have HPW := Lib.hid (po_P (HT.out.drew) hk2)
            clear hf hil
            go_wp2_with fail
            go_region_held3 (fun w' => w'.cell? ⟨bw, k, none⟩ = some (.pointer (some ⟨(s k).g, 0, none⟩)) ∧ w'.cell? ⟨bw + 1, k, none⟩ = some (.pointer (some ⟨(x k).g, 0, none⟩)) ∧ w'.cell? ⟨b, off + i * 4, none⟩ = some (.int .i64 ik) ∧ w'.cell? ⟨b, off + i * 4 + 1, none⟩ = some (.int .i64 in_) ∧ w'.cell? ⟨b, off + i * 4 + 2, none⟩ = some (.bool ib) ∧ w'.cell? ⟨b, off + i * 4 + 3, none⟩ = some (.string is_)) (go_keep)
              (first
                | (go_at_call 17; (with_reducible refine (HWR.out _ HPW.out).mono ?_); rintro r w9 ⟨rfl, v1, v2, ht9⟩; have HT9 := Lib.hid (po_p HT.out.drew hk2 ht9); clear ht9; have p0 : w9.cell? ⟨bw, k, none⟩ = some (.pointer (some ⟨(s k).g, 0, none⟩)) := ((po_D HT9.out : Blk w9 bw cs 26).cell k).trans (HP.out.at_ k hk2); have p1 : w9.cell? ⟨bw + 1, k, none⟩ = some (.pointer (some ⟨(x k).g, 0, none⟩)) := ((po_X HT9.out : Blk w9 (bw + 1) ds 28).cell k).trans (HP.out.xat k hk2); have r0 := (HT9.out.chg.cell (p := ⟨b, off + i * 4, none⟩) hbl (fun h => h)).trans ((HT.out.chg.cell (p := ⟨b, off + i * 4, none⟩) hbl (fun h => h)).symm.trans c0); have r1 := (HT9.out.chg.cell (p := ⟨b, off + i * 4 + 1, none⟩) hbl (fun h => h)).trans ((HT.out.chg.cell (p := ⟨b, off + i * 4 + 1, none⟩) hbl (fun h => h)).symm.trans c1); have r2 := (HT9.out.chg.cell (p := ⟨b, off + i * 4 + 2, none⟩) hbl (fun h => h)).trans ((HT.out.chg.cell (p := ⟨b, off + i * 4 + 2, none⟩) hbl (fun h => h)).symm.trans c2); have r3 := (HT9.out.chg.cell (p := ⟨b, off + i * 4 + 3, none⟩) hbl (fun h => h)).trans ((HT.out.chg.cell (p := ⟨b, off + i * 4 + 3, none⟩) hbl (fun h => h)).symm.trans c3)))
            have HTN : Hid (10 * tot (its.take i) + (ItA.mk ik in_ ib is_).s.size + 10 ≤ 10 * tot (its.take (i + 1))) := Lib.hid (by rw [HTK.out]; show _ + is_.size + 10 ≤ 10 * (_ + (1 + is_.size)); omega)
            go_wp2_with fail
            go_roundw
            case rel => exact ⟨i + 1, N, _, _, kk, by simp, by omega, by omega, HP.out.put hk2 HFT.out v1 v2 _ HTN.out, HK.out, HT9.out⟩
            case measure => simp [intOf]; omega
          · have HTM := Lib.hid (tot_le its i)
            have HTG : Hid (tot (its.take i) ≤ tot (its.take (i + 1))) := Lib.hid (by
              by_cases h : i < its.length
              · rw [tot_take its i h]; omega
              · rw [List.take_of_length_le (Nat.le_of_not_lt h), List.take_of_length_le (by omega)]; exact Nat.le_refl _)
            obtain ⟨m, hm⟩ : ∃ m, (dnB (s k).bs (s k).bad).length = m := ⟨_, rfl⟩
            by_cases hlt : i < L
            · have hd2 : decide ((i : Int) < (L : Int)) = true := by simp; omega
              have hd2' : decide (i < L) = true := by simp; omega
              have hil : i < its.length := by rw [HL.out]; exact hlt
              have hk6 : its[i].kind = 6 := Decidable.byContradiction fun h => hw ⟨hil, h⟩
              obtain ⟨hf, b, off, rfl, c0, c1, c2, c3⟩ := HI.out.load HT.out.chg i hil
              rw [hk6] at c0
              clear hf c1 c2 c3 hk6 hw hil
              have HDN := Lib.hid (fun W h => done_any (s k) W m hm h (by have := HP.out.len k hk2; have := HTM.out; have := HBB.out; omega))
              have HXN := fun W h => xdone_any (x k) W m (by rw [HP.out.bs k hk2, HP.out.bad k hk2]; exact hm) h (by rw [HP.out.bs k hk2]; have := HP.out.len k hk2; have := HTM.out; have := HBB.out; omega)
              rw [HP.out.bs k hk2, HP.out.bad k hk2] at HXN
              have HXN := Lib.hid HXN
              have HMB := Lib.hid (show m ≤ 21474836480 by have h1 := dnB_le (s k).bs (s k).bad; have := HP.out.len k hk2; have := HTM.out; have := HBB.out; omega)
              generalize dnB (s k).bs (s k).bad = db at *
              generalize dnE (s k).bad = de at *
              clear hm
              have e0 : wr.cell? ⟨bw, k, none⟩ = some (.pointer (some ⟨(s k).g, 0, none⟩)) := ((po_D HT.out : Blk wr bw cs 26).cell k).trans (HP.out.at_ k hk2)
              have HSK := Lib.hid (pw_l (po_P HT.out hk2))
              go_wp2_with (first
                | (go_at_call 18; (with_reducible refine (HDN.out _ HSK.out).mono ?_); rintro r w11 ⟨A1, c1, rfl, ht11⟩; have HT11 := Lib.hid (po_a HT.out ht11); clear ht11; have e1 : w11.cell? ⟨bw, k, none⟩ = some (.pointer (some ⟨(s k).g, 0, none⟩)) := ((po_D HT11.out : Blk w11 bw cs 26).cell k).trans (HP.out.at_ k hk2); have HSK1 := Lib.hid (pw_l (po_P HT11.out hk2)))
                | (go_at_call 18; (with_reducible refine (HDN.out _ HSK1.out).mono ?_); rintro r w12 ⟨A2, c2, rfl, ht12⟩; have HT12 := Lib.hid (po_b HT11.out ht12); clear ht12; have e2 : w12.cell? ⟨bw + 1, k, none⟩ = some (.pointer (some ⟨(x k).g, 0, none⟩)) := ((po_X HT12.out : Blk w12 (bw + 1) ds 28).cell k).trans (HP.out.xat k hk2); have HXK := Lib.hid (pw_r (po_P HT12.out hk2)))
                | (go_at_call 19; (with_reducible refine (HXN.out _ HXK.out).mono ?_); rintro r w13 ⟨A3, c3, rfl, ht13⟩; have HT13 := Lib.hid (po_c HT12.out ht13); clear ht13)
                | (go_at_call 20; (with_reducible refine (same_rb A1 A3 m c1 c3 db _ (po_A HT13.out) (po_C HT13.out) (by have := HMB.out; omega)).mono ?_); rintro r w14 ⟨rfl, hc14⟩; have HT14 := Lib.hid (HT13.out.kept hc14); clear hc14)
                | (go_at_call 20; (with_reducible refine (same_rb A2 A3 m c2 c3 db _ (po_B HT14.out) (po_C HT14.out) (by have := HMB.out; omega)).mono ?_); rintro r w15 ⟨rfl, hc15⟩; have HT15 := Lib.hid (HT14.out.kept hc15); clear hc15; have HBO15 := Lib.hid (show (Hp.Own.both (Kb.own kk N 0) (Hp.Own.row 5 1 (.slice A1 m c1) m (db.map bv))).holds w15 from po_bothA HT15.out))
                | (go_at_call 21; (with_reducible refine (Kb.keep_at kk gs N 21474836480 (N + 1) rfl A1 m c1 (db.map bv) _ HK.out HBO15.out (gd_bv db) HMB.out (by decide) (by omega)).mono ?_); rintro r w16 ⟨rfl, kk2, hk2', ht16⟩; have HK16 := Lib.hid hk2'; have HT16 := Lib.hid (po_sa HT15.out ht16); clear hk2' ht16; have HBO16 := Lib.hid (show (Hp.Own.both (Kb.own kk2 (N + 1) 0) (Hp.Own.row 5 1 (.slice A2 m c2) m (db.map bv))).holds w16 from po_bothB HT16.out))
                | (go_at_call 21; (with_reducible refine (Kb.keep_at kk2 gs (N + 1) 21474836480 (N + 2) rfl A2 m c2 (db.map bv) _ HK16.out HBO16.out (gd_bv db) HMB.out (by decide) (by omega)).mono ?_); rintro r w17 ⟨rfl, kk3, hk3', ht17⟩; have HK17 := Lib.hid hk3'; have HT17 := Lib.hid (po_sb HT16.out ht17); clear hk3' ht17))
              go_roundw
              case rel => exact ⟨i + 1, N + 2, s, x, kk3, by simp, by omega, by omega, HP.out.wide (Nat.mul_le_mul_left _ HTG.out), HK17.out, po_c HT17.out (Turns.emptied (Turns.refl (po_C HT17.out)))⟩
              case measure => simp [intOf]; omega
            · have hd2 : decide ((i : Int) < (L : Int)) = false := by simp; omega
              have hd2' : decide (i < L) = false := by simpa using hlt
              clear hw
              have HDN := Lib.hid (fun W h => done_any (s k) W m hm h (by have := HP.out.len k hk2; have := HTM.out; have := HBB.out; omega))
              have HXN := fun W h => xdone_any (x k) W m (by rw [HP.out.bs k hk2, HP.out.bad k hk2]; exact hm) h (by rw [HP.out.bs k hk2]; have := HP.out.len k hk2; have := HTM.out; have := HBB.out; omega)
              rw [HP.out.bs k hk2, HP.out.bad k hk2] at HXN
              have HXN := Lib.hid HXN
              have HMB := Lib.hid (show m ≤ 21474836480 by have h1 := dnB_le (s k).bs (s k).bad; have := HP.out.len k hk2; have := HTM.out; have := HBB.out; omega)
              generalize dnB (s k).bs (s k).bad = db at *
              generalize dnE (s k).bad = de at *
              clear hm
              have e0 : wr.cell? ⟨bw, k, none⟩ = some (.pointer (some ⟨(s k).g, 0, none⟩)) := ((po_D HT.out : Blk wr bw cs 26).cell k).trans (HP.out.at_ k hk2)
              have HSK := Lib.hid (pw_l (po_P HT.out hk2))
              go_wp2_with (first
                | (go_at_call 18; (with_reducible refine (HDN.out _ HSK.out).mono ?_); rintro r w11 ⟨A1, c1, rfl, ht11⟩; have HT11 := Lib.hid (po_a HT.out ht11); clear ht11; have e1 : w11.cell? ⟨bw, k, none⟩ = some (.pointer (some ⟨(s k).g, 0, none⟩)) := ((po_D HT11.out : Blk w11 bw cs 26).cell k).trans (HP.out.at_ k hk2); have HSK1 := Lib.hid (pw_l (po_P HT11.out hk2)))
                | (go_at_call 18; (with_reducible refine (HDN.out _ HSK1.out).mono ?_); rintro r w12 ⟨A2, c2, rfl, ht12⟩; have HT12 := Lib.hid (po_b HT11.out ht12); clear ht12; have e2 : w12.cell? ⟨bw + 1, k, none⟩ = some (.pointer (some ⟨(x k).g, 0, none⟩)) := ((po_X HT12.out : Blk w12 (bw + 1) ds 28).cell k).trans (HP.out.xat k hk2); have HXK := Lib.hid (pw_r (po_P HT12.out hk2)))
                | (go_at_call 19; (with_reducible refine (HXN.out _ HXK.out).mono ?_); rintro r w13 ⟨A3, c3, rfl, ht13⟩; have HT13 := Lib.hid (po_c HT12.out ht13); clear ht13)
                | (go_at_call 20; (with_reducible refine (same_rb A1 A3 m c1 c3 db _ (po_A HT13.out) (po_C HT13.out) (by have := HMB.out; omega)).mono ?_); rintro r w14 ⟨rfl, hc14⟩; have HT14 := Lib.hid (HT13.out.kept hc14); clear hc14)
                | (go_at_call 20; (with_reducible refine (same_rb A2 A3 m c2 c3 db _ (po_B HT14.out) (po_C HT14.out) (by have := HMB.out; omega)).mono ?_); rintro r w15 ⟨rfl, hc15⟩; have HT15 := Lib.hid (HT14.out.kept hc15); clear hc15; have HBO15 := Lib.hid (show (Hp.Own.both (Kb.own kk N 0) (Hp.Own.row 5 1 (.slice A1 m c1) m (db.map bv))).holds w15 from po_bothA HT15.out))
                | (go_at_call 21; (with_reducible refine (Kb.keep_at kk gs N 21474836480 (N + 1) rfl A1 m c1 (db.map bv) _ HK.out HBO15.out (gd_bv db) HMB.out (by decide) (by omega)).mono ?_); rintro r w16 ⟨rfl, kk2, hk2', ht16⟩; have HK16 := Lib.hid hk2'; have HT16 := Lib.hid (po_sa HT15.out ht16); clear hk2' ht16; have HBO16 := Lib.hid (show (Hp.Own.both (Kb.own kk2 (N + 1) 0) (Hp.Own.row 5 1 (.slice A2 m c2) m (db.map bv))).holds w16 from po_bothB HT16.out))
                | (go_at_call 21; (with_reducible refine (Kb.keep_at kk2 gs (N + 1) 21474836480 (N + 2) rfl A2 m c2 (db.map bv) _ HK16.out HBO16.out (gd_bv db) HMB.out (by decide) (by omega)).mono ?_); rintro r w17 ⟨rfl, kk3, hk3', ht17⟩; have HK17 := Lib.hid hk3'; have HT17 := Lib.hid (po_sb HT16.out ht17); clear hk3' ht17))
              go_roundw
              case rel => exact ⟨i + 1, N + 2, s, x, kk3, by simp, by omega, by omega, HP.out.wide (Nat.mul_le_mul_left _ HTG.out), HK17.out, po_c HT17.out (Turns.emptied (Turns.refl (po_C HT17.out)))⟩
              case measure => simp [intOf]; omega
        · have hd1 : decide ((i : Int) ≤ (L : Int)) = false := by simp; omega
          have hd1' : decide (i ≤ L) = false := by simp; omega
          have HSS := Lib.hid (po_S HT.out)
          have HTM := Lib.hid (tot_le its i)
          go_wp2_with (first
            | (go_at_call 22; (with_reducible refine (Kb.holds_at kk gs N 21474836480 _ HK.out HSS.out (by decide) (by omega)).mono ?_); rintro r w5 ⟨rfl, hc5⟩; have HT5 := Lib.hid (HT.out.kept hc5); clear hc5; have HS5 := Lib.hid (po_S HT5.out))
            | (go_at_call 23; (with_reducible refine (Kb.spoil_at kk gs N 21474836480 _ HK.out HS5.out (by decide) (by omega)).mono ?_); rintro r w6 ⟨rfl, hc6⟩; have HT6 := Lib.hid (po_s HT5.out (Turns.mk (O' := Hp.Own.emp) hc6 trivial (fun _ hb => hb.elim))); clear hc6))
          go_loopw [21] (fun x21 wr => ∃ k : Nat, x21 = .int .i64 k ∧ k ≤ 2 ∧ Turns w wr Hp.Own.emp (po s x 2 Hp.Own.emp Hp.Own.emp Hp.Own.emp Hp.Own.emp (Hp.Own.blk bw cs 26) (Hp.Own.blk (bw + 1) ds 28))) (fun x21 _ => 2 - (intOf x21).toNat)
          case atStart => exact ⟨0, rfl, by omega, HT6.out⟩
          case round =>
            clear HT6 HT5 HS5 HT HSS
            obtain ⟨k, rfl, hk2', ht⟩ := hrel
            have HT := Lib.hid ht
            clear ht
            by_cases hk2 : k < 2
            · have hdk : decide ((k : Int) < 2) = true := by simp; omega
              have hdk' : decide (k < 2) = true := by simpa using hk2
              have hk2i : (k : Int) < 2 := by omega
              obtain ⟨m, hm⟩ : ∃ m, (dnB (s k).bs (s k).bad).length = m := ⟨_, rfl⟩
              have HDN := Lib.hid (fun W h => done_any (s k) W m hm h (by have := HP.out.len k hk2; have := HTM.out; have := HBB.out; omega))
              have HXN := fun W h => xdone_any (x k) W m (by rw [HP.out.bs k hk2, HP.out.bad k hk2]; exact hm) h (by rw [HP.out.bs k hk2]; have := HP.out.len k hk2; have := HTM.out; have := HBB.out; omega)
              rw [HP.out.bs k hk2, HP.out.bad k hk2] at HXN
              have HXN := Lib.hid HXN
              have HMB := Lib.hid (show m ≤ 21474836480 by have h1 := dnB_le (s k).bs (s k).bad; have := HP.out.len k hk2; have := HTM.out; have := HBB.out; omega)
              generalize dnB (s k).bs (s k).bad = db at *
              generalize dnE (s k).bad = de at *
              clear hm
              have e0 : wr.cell? ⟨bw, k, none⟩ = some (.pointer (some ⟨(s k).g, 0, none⟩)) := ((po_D HT.out : Blk wr bw cs 26).cell k).trans (HP.out.at_ k hk2)
              have HSK := Lib.hid (pw_l (po_P HT.out hk2))
              go_wp2_with (first
                | (go_at_call 18; (with_reducible refine (HDN.out _ HSK.out).mono ?_); rintro r w11 ⟨A1, c1, rfl, ht11⟩; have HT11 := Lib.hid (po_a HT.out ht11); clear ht11; have e2 : w11.cell? ⟨bw + 1, k, none⟩ = some (.pointer (some ⟨(x k).g, 0, none⟩)) := ((po_X HT11.out : Blk w11 (bw + 1) ds 28).cell k).trans (HP.out.xat k hk2); have HXK := Lib.hid (pw_r (po_P HT11.out hk2)))
                | (go_at_call 19; (with_reducible refine (HXN.out _ HXK.out).mono ?_); rintro r w13 ⟨A3, c3, rfl, ht13⟩; have HT13 := Lib.hid (po_c HT11.out ht13); clear ht13)
                | (go_at_call 20; (with_reducible refine (same_rb A1 A3 m c1 c3 db _ (po_A HT13.out) (po_C HT13.out) (by have := HMB.out; omega)).mono ?_); rintro r w14 ⟨rfl, hc14⟩; have HT14 := Lib.hid (HT13.out.kept hc14); clear hc14))
              go_roundw
              case rel => exact ⟨k + 1, by simp, by omega, po_c (po_a HT14.out (Turns.emptied (Turns.refl (po_A HT14.out)))) (Turns.emptied (Turns.refl (po_C HT14.out)))⟩
              case measure => simp [intOf]; omega
            · have hdk : decide ((k : Int) < 2) = false := by simp; omega
              have hdk' : decide (k < 2) = false := by simpa using hk2
              go_wp2_with fail
              go_ret
              exact ⟨rfl, HT.out.chg⟩
theorem bitsWrites_arg (v : Value) (w : World) (h : ArgOk Try.prog w 23 v) : Calls Try.prog 5 #[v] w fun e w' => e = .returned (.bool true) ∧ Below w.heap.size w w' := by
  obtain ⟨A, its, cap, rfl, hi, hl⟩ := items_open h
  refine (bitsWrites_any A its cap w hi hl).mono ?_
  rintro e w' ⟨he, hc⟩
  exact ⟨he, hc.below (fun k h => h.elim) (Nat.le_refl _)⟩
end Go.Proofs.Ytkpgdonpmfebaaa.Bt
