/- OplogRange: what All gives is fixed when a range begins. -/
import Derived.Test.YtpaaghbmlenlfaaOlRc
namespace Go.Proofs.Ytpaaghbmlenlfaa.Ol
open Go.Shelf
open Go.RowKit Go.Hp
attribute [local go_sem] min2_lean min_two max2_lean max_two
set_option linter.unusedSimpArgs false
set_option linter.unusedVariables false
set_option maxRecDepth 100000
attribute [local go_sem] Oper.semAt_some run_func_eq
set_option maxHeartbeats 4000000 in
theorem range_yes (room : Nat) (A1 A2 : Option Addr) (n1 c1 n2 c2 : Nat) (l1 : List En) (acts : List AcE) (w : World) (h : 1 ≤ room) (h2 : room ≤ 64) (hf : SlR 7 72 EnR w [.slice A1 n1 c1] l1) (hn1 : l1.length = n1)
    (ha : SlR 12 128 ActR w [.slice A2 n2 c2] acts) (hn2 : acts.length = n2) (hb1 : n1 ≤ 2932031007400) (hb2 : n2 ≤ 2932031007400) :
    Calls Try.prog 10 #[.int .i64 room, .slice A1 n1 c1, .slice A2 n2 c2] w fun e w' => e = .returned (.bool true) ∧ Below w.heap.size w w' := by
  have HFI := Lib.hid hf
  have HAC := Lib.hid ha
  have HN1 := Lib.hid hn1
  have HN2 := Lib.hid hn2
  have HPN := Lib.hid (fun W => pNew room W h h2)
  have HRN := Lib.hid (fun W => rNew room W h h2)
  clear hf ha hn1 hn2
  refine (callsIn_wide (n := 5)).1 (callsIn_of_wp_marks Try.func10 rfl trivial ?_ rfl)
  simp only [Try.ntmps10, List.size_toArray, List.length_cons, List.length_nil, Nat.reduceAdd, Nat.reduceSub, Array.replicate_succ, Array.replicate_zero, List.push_toArray, List.append_toArray, List.nil_append, List.cons_append]
  refine wpIn_wide.2 ?_
  go_wp2_with (first
    | (go_at_call 21; refine (HPN.out _).mono ?_; rintro r w1 ⟨gx, pbx, rfl, ht1⟩; have HT1 := Lib.hid ht1; clear ht1)
    | (go_at_call 28; refine (HRN.out _).mono ?_; rintro r w2 ⟨gy, rfl, ht2⟩; have HT2 := Lib.hid ht2; clear ht2; obtain ⟨hlt7, x7, y7⟩ := box_after HT2.out)
    | (go_at_call 29; (with_reducible refine (all_any gx _).mono ?_); rintro r w3 ⟨rfl, rfl⟩))
  clear y7 x7
  have HF : Hid (Turns w (w2.alloc (.cells #[.pointer (some ⟨gy, 0, none⟩)] 59)) Hp.Own.emp (fO gx pbx gy room (0, []) (0, []) (.slice none 0 0) (R0 (w.heap.size) (w.heap.size + 1) w1.heap.size w2.heap.size (.slice A2 n2 c2) gx gy))) := to_fam rfl HT1.out HT2.out
  have HF2 := Lib.hid (HF.out.alloc (.cells #[.pointer (some ⟨gx, 0, none⟩)] 44))
  have HOK0 : Hid (Ab.Ok room (0, [])) := ⟨h, h2, by simp, by simp, by simp⟩
  obtain ⟨RR, hRR⟩ : ∃ RR, RR = R0 (w.heap.size) (w.heap.size + 1) w1.heap.size w2.heap.size (.slice A2 n2 c2) gx gy := ⟨_, rfl⟩
  rw [← hRR] at HF2
  have HRR := Lib.hid hRR
  clear HF hRR HT1 HT2 HPN HRN
  go_loopw [54] (fun x54 wr => ∃ (i : Nat) (A : Ab) (v : Value), x54 = .int .i64 (i : Int) ∧ i ≤ n1 ∧ A.Ok room ∧ Turns w wr Hp.Own.emp (fO gx pbx gy room A A v RR)) (fun x54 _ => n1 - (intOf x54).toNat)
  case atStart => exact ⟨0, (0, []), .slice none 0 0, rfl, Nat.zero_le _, HOK0.out, HF2.out⟩
  case round =>
    obtain ⟨i, A, v, rfl, hi, hok, ht⟩ := hrel
    have HOK := Lib.hid hok
    have HT := Lib.hid ht
    clear hok ht
    by_cases hlt : i < n1
    · have hd' : decide (i < n1) = true := by simpa using hlt
      obtain ⟨e, he⟩ : ∃ e, l1[i]? = some e := ⟨l1[i]'(by rw [HN1.out]; exact hlt), List.getElem?_eq_getElem _⟩
      obtain ⟨b, off, hab, hb, hx⟩ := EnS.of_sl (SlR.keepTo HFI.out HT.out) i e he
      subst hab
      obtain ⟨ec, en, kk, nm, tx, nu, mo⟩ := e
      have z0 : wr.cell? ⟨b, off + i * 7, none⟩ = some (.int .i64 ec) := hx 0 _ rfl
      have z1 : wr.cell? ⟨b, off + i * 7 + 1, none⟩ = some (.int .i64 en) := hx 1 _ rfl
      have z2 : wr.cell? ⟨b, off + i * 7 + 2, none⟩ = some (.int .i64 kk) := hx 2 _ rfl
      have z3 : wr.cell? ⟨b, off + i * 7 + 3, none⟩ = some (.string nm) := hx 3 _ rfl
      have z4 : wr.cell? ⟨b, off + i * 7 + 4, none⟩ = some (.string tx) := hx 4 _ rfl
      have z5 : wr.cell? ⟨b, off + i * 7 + 5, none⟩ = some (.int .i64 nu) := hx 5 _ rfl
      have z6 : wr.cell? ⟨b, off + i * 7 + 6, none⟩ = some (.int .i64 mo) := hx 6 _ rfl
      clear hx he
      go_wp2_with fail
      obtain ⟨W, hW⟩ : ∃ W, W = wr.alloc (.cells #[.int .i64 ec, .int .i64 en, .int .i64 kk, .string nm, .string tx, .int .i64 nu, .int .i64 mo] 51) := ⟨_, rfl⟩
      rw [← hW]
      have HT0 : Hid (Turns w W Hp.Own.emp (fO gx pbx gy room A A v RR)) := by rw [hW]; exact HT.out.alloc _
      have HB0 : Hid (Bes wr.heap.size #[.int .i64 ec, .int .i64 en, .int .i64 kk, .string nm, .string tx, .int .i64 nu, .int .i64 mo] 51 W (fO gx pbx gy room A A v RR)) := by rw [hW]; exact Bes.new HT.out.now _ _
      clear hW z0 z1 z2 z3 z4 z5 z6
      have HRR2 := HRR.out
      subst HRR2
      have fx : W.cell? ⟨w1.heap.size, 0, none⟩ = some (.pointer (some ⟨gx, 0, none⟩)) := Blk.cell (fO_ho 2 HT0.out.now) 0
      have fy : W.cell? ⟨w2.heap.size, 0, none⟩ = some (.pointer (some ⟨gy, 0, none⟩)) := Blk.cell (fO_ho 3 HT0.out.now) 0
      have f0 : W.cell? ⟨wr.heap.size, 0, none⟩ = some (.int .i64 ec) := HB0.out.blk.cell 0
      have f1 : W.cell? ⟨wr.heap.size, 1, none⟩ = some (.int .i64 en) := HB0.out.blk.cell 1
      have f2 : W.cell? ⟨wr.heap.size, 2, none⟩ = some (.int .i64 kk) := HB0.out.blk.cell 2
      have f3 : W.cell? ⟨wr.heap.size, 3, none⟩ = some (.string nm) := HB0.out.blk.cell 3
      have f4 : W.cell? ⟨wr.heap.size, 4, none⟩ = some (.string tx) := HB0.out.blk.cell 4
      have f5 : W.cell? ⟨wr.heap.size, 5, none⟩ = some (.int .i64 nu) := HB0.out.blk.cell 5
      have f6 : W.cell? ⟨wr.heap.size, 6, none⟩ = some (.int .i64 mo) := HB0.out.blk.cell 6
      clear HRR
      go_region_held3 (fun w' => w'.cell? ⟨w1.heap.size, 0, none⟩ = some (.pointer (some ⟨gx, 0, none⟩)) ∧ w'.cell? ⟨w2.heap.size, 0, none⟩ = some (.pointer (some ⟨gy, 0, none⟩)) ∧ w'.cell? ⟨wr.heap.size, 0, none⟩ = some (.int .i64 ec) ∧ w'.cell? ⟨wr.heap.size, 1, none⟩ = some (.int .i64 en) ∧ w'.cell? ⟨wr.heap.size, 2, none⟩ = some (.int .i64 kk) ∧ w'.cell? ⟨wr.heap.size, 3, none⟩ = some (.string nm) ∧ w'.cell? ⟨wr.heap.size, 4, none⟩ = some (.string tx) ∧ w'.cell? ⟨wr.heap.size, 5, none⟩ = some (.int .i64 nu) ∧ w'.cell? ⟨wr.heap.size, 6, none⟩ = some (.int .i64 mo)) (go_keep) (first
        | (go_at_call 22; first | (refine (fAdd A ⟨ec, en, kk, nm, tx, nu, mo⟩ _ (by exact HTy.out.now)).mono ?_; rintro r wB ⟨rfl, tB⟩; have HTB := Lib.hid (HTy.out.trans tB); have HBB := Lib.hid (HBy.out.step tB); have qx : wB.cell? ⟨w1.heap.size, 0, none⟩ = some (.pointer (some ⟨gx, 0, none⟩)) := Blk.cell (fO_ho 2 HTB.out.now) 0; have qy : wB.cell? ⟨w2.heap.size, 0, none⟩ = some (.pointer (some ⟨gy, 0, none⟩)) := Blk.cell (fO_ho 3 HTB.out.now) 0; have q0 : wB.cell? ⟨wr.heap.size, 0, none⟩ = some (.int .i64 ec) := HBB.out.blk.cell 0; have q1 : wB.cell? ⟨wr.heap.size, 1, none⟩ = some (.int .i64 en) := HBB.out.blk.cell 1; have q2 : wB.cell? ⟨wr.heap.size, 2, none⟩ = some (.int .i64 kk) := HBB.out.blk.cell 2; have q3 : wB.cell? ⟨wr.heap.size, 3, none⟩ = some (.string nm) := HBB.out.blk.cell 3; have q4 : wB.cell? ⟨wr.heap.size, 4, none⟩ = some (.string tx) := HBB.out.blk.cell 4; have q5 : wB.cell? ⟨wr.heap.size, 5, none⟩ = some (.int .i64 nu) := HBB.out.blk.cell 5; have q6 : wB.cell? ⟨wr.heap.size, 6, none⟩ = some (.int .i64 mo) := HBB.out.blk.cell 6) | (refine (fAdd A ⟨ec, en, kk, nm, tx, nu, mo⟩ _ (by exact HT0.out.drew.now)).mono ?_; rintro r wA ⟨rfl, tA⟩; have HTx := Lib.hid (HT0.out.drew.trans tA); have HBx := Lib.hid (HB0.out.step tA.drewl); have ax : wA.cell? ⟨w1.heap.size, 0, none⟩ = some (.pointer (some ⟨gx, 0, none⟩)) := Blk.cell (fO_ho 2 HTx.out.now) 0; have ay : wA.cell? ⟨w2.heap.size, 0, none⟩ = some (.pointer (some ⟨gy, 0, none⟩)) := Blk.cell (fO_ho 3 HTx.out.now) 0; have a0 : wA.cell? ⟨wr.heap.size, 0, none⟩ = some (.int .i64 ec) := HBx.out.blk.cell 0; have a1 : wA.cell? ⟨wr.heap.size, 1, none⟩ = some (.int .i64 en) := HBx.out.blk.cell 1; have a2 : wA.cell? ⟨wr.heap.size, 2, none⟩ = some (.int .i64 kk) := HBx.out.blk.cell 2; have a3 : wA.cell? ⟨wr.heap.size, 3, none⟩ = some (.string nm) := HBx.out.blk.cell 3; have a4 : wA.cell? ⟨wr.heap.size, 4, none⟩ = some (.string tx) := HBx.out.blk.cell 4; have a5 : wA.cell? ⟨wr.heap.size, 5, none⟩ = some (.int .i64 nu) := HBx.out.blk.cell 5; have a6 : wA.cell? ⟨wr.heap.size, 6, none⟩ = some (.int .i64 mo) := HBx.out.blk.cell 6))
        | (go_at_call 30; first | (refine (gAdd A HOK.out ⟨ec, en, kk, nm, tx, nu, mo⟩ _ (by exact HTx.out.now)).mono ?_; rintro r wB ⟨rfl, v2, tB⟩; have HTB := Lib.hid (HTx.out.trans tB); have HBB := Lib.hid (HBx.out.step tB); have qx : wB.cell? ⟨w1.heap.size, 0, none⟩ = some (.pointer (some ⟨gx, 0, none⟩)) := Blk.cell (fO_ho 2 HTB.out.now) 0; have qy : wB.cell? ⟨w2.heap.size, 0, none⟩ = some (.pointer (some ⟨gy, 0, none⟩)) := Blk.cell (fO_ho 3 HTB.out.now) 0; have q0 : wB.cell? ⟨wr.heap.size, 0, none⟩ = some (.int .i64 ec) := HBB.out.blk.cell 0; have q1 : wB.cell? ⟨wr.heap.size, 1, none⟩ = some (.int .i64 en) := HBB.out.blk.cell 1; have q2 : wB.cell? ⟨wr.heap.size, 2, none⟩ = some (.int .i64 kk) := HBB.out.blk.cell 2; have q3 : wB.cell? ⟨wr.heap.size, 3, none⟩ = some (.string nm) := HBB.out.blk.cell 3; have q4 : wB.cell? ⟨wr.heap.size, 4, none⟩ = some (.string tx) := HBB.out.blk.cell 4; have q5 : wB.cell? ⟨wr.heap.size, 5, none⟩ = some (.int .i64 nu) := HBB.out.blk.cell 5; have q6 : wB.cell? ⟨wr.heap.size, 6, none⟩ = some (.int .i64 mo) := HBB.out.blk.cell 6) | (refine (gAdd A HOK.out ⟨ec, en, kk, nm, tx, nu, mo⟩ _ (by exact HT0.out.drew.now)).mono ?_; rintro r wA ⟨rfl, v2, tA⟩; have HTy := Lib.hid (HT0.out.drew.trans tA); have HBy := Lib.hid (HB0.out.step tA.drewl); have ax : wA.cell? ⟨w1.heap.size, 0, none⟩ = some (.pointer (some ⟨gx, 0, none⟩)) := Blk.cell (fO_ho 2 HTy.out.now) 0; have ay : wA.cell? ⟨w2.heap.size, 0, none⟩ = some (.pointer (some ⟨gy, 0, none⟩)) := Blk.cell (fO_ho 3 HTy.out.now) 0; have a0 : wA.cell? ⟨wr.heap.size, 0, none⟩ = some (.int .i64 ec) := HBy.out.blk.cell 0; have a1 : wA.cell? ⟨wr.heap.size, 1, none⟩ = some (.int .i64 en) := HBy.out.blk.cell 1; have a2 : wA.cell? ⟨wr.heap.size, 2, none⟩ = some (.int .i64 kk) := HBy.out.blk.cell 2; have a3 : wA.cell? ⟨wr.heap.size, 3, none⟩ = some (.string nm) := HBy.out.blk.cell 3; have a4 : wA.cell? ⟨wr.heap.size, 4, none⟩ = some (.string tx) := HBy.out.blk.cell 4; have a5 : wA.cell? ⟨wr.heap.size, 5, none⟩ = some (.int .i64 nu) := HBy.out.blk.cell 5; have a6 : wA.cell? ⟨wr.heap.size, 6, none⟩ = some (.int .i64 mo) := HBy.out.blk.cell 6)))
      all_goals
        have hokA := aAdd_ok HOK.out (⟨ec, en, kk, nm, tx, nu, mo⟩ : En)
        clear HBB
        go_wp2_with fail
        go_roundw
        case rel => exact ⟨i + 1, _, v2, by simp, hlt, hokA, HTB.out⟩
        case measure => simp [intOf]; omega
    · have hd' : decide (i < n1) = false := by simpa using hlt
      have HRR2 := HRR.out
      subst HRR2
      have fx : wr.cell? ⟨w1.heap.size, 0, none⟩ = some (.pointer (some ⟨gx, 0, none⟩)) := Blk.cell (fO_ho 2 HT.out.now) 0
      have fy : wr.cell? ⟨w2.heap.size, 0, none⟩ = some (.pointer (some ⟨gy, 0, none⟩)) := Blk.cell (fO_ho 3 HT.out.now) 0
      have fb : wr.cell? ⟨gy, 1, none⟩ = some (.int .i64 A.1) := (rO_cells (fO_hy HT.out.now)).2.1
      have ly : w2.heap.size < wr.heap.size := Blk.lt (fO_ho 3 HT.out.now)
      have lg : gy < wr.heap.size := Blk.lt (fO_hy HT.out.now).1
      clear HRR HF2 HOK0
      go_wp2_with (first
        | (go_at_call 29; (with_reducible refine (all_any gx _).mono ?_); rintro r w3 ⟨rfl, rfl⟩))
      obtain ⟨R0', hR0⟩ : ∃ R, R = R0 w.heap.size (w.heap.size + 1) w1.heap.size w2.heap.size (.slice A2 n2 c2) gx gy := ⟨_, rfl⟩
      rw [← hR0] at HT
      have e8 : R0' 8 = Hp.Own.emp := by rw [hR0]; rfl
      have e4 : upd R0' 8 (Hp.Own.blk wr.heap.size #[.pointer (some ⟨gx, 0, none⟩)] 44) 4 = Hp.Own.emp := by rw [hR0]; rfl
      have HT3 := Lib.hid (fO_new 4 e4 (fO_new 8 e8 HT.out (Turns.blk_new wr #[.pointer (some ⟨gx, 0, none⟩)] 44)) (Turns.blk_new _ #[.func (.func 48) #[] #[.pointer (some ⟨wr.heap.size, 0, none⟩)]] 63))
      obtain ⟨W, hW⟩ : ∃ W, W = (wr.alloc (.cells #[.pointer (some ⟨gx, 0, none⟩)] 44)).alloc (.cells #[.func (.func 48) #[] #[.pointer (some ⟨wr.heap.size, 0, none⟩)]] 63) := ⟨_, rfl⟩
      rw [← hW] at HT3 ⊢
      have e9 : upd (upd R0' 8 (Hp.Own.blk wr.heap.size #[.pointer (some ⟨gx, 0, none⟩)] 44)) 4 (Hp.Own.blk (wr.alloc (.cells #[.pointer (some ⟨gx, 0, none⟩)] 44)).heap.size #[.func (.func 48) #[] #[.pointer (some ⟨wr.heap.size, 0, none⟩)]] 63) 9 = Hp.Own.emp := by rw [hR0]; rfl
      have e5 : upd (upd R0' 8 (Hp.Own.blk wr.heap.size #[.pointer (some ⟨gx, 0, none⟩)] 44)) 4 (Hp.Own.blk (wr.alloc (.cells #[.pointer (some ⟨gx, 0, none⟩)] 44)).heap.size #[.func (.func 48) #[] #[.pointer (some ⟨wr.heap.size, 0, none⟩)]] 63) 5 = Hp.Own.emp := by rw [hR0]; rfl
      have e6 : upd (upd R0' 8 (Hp.Own.blk wr.heap.size #[.pointer (some ⟨gx, 0, none⟩)] 44)) 4 (Hp.Own.blk (wr.alloc (.cells #[.pointer (some ⟨gx, 0, none⟩)] 44)).heap.size #[.func (.func 48) #[] #[.pointer (some ⟨wr.heap.size, 0, none⟩)]] 63) 6 = Hp.Own.emp := by rw [hR0]; rfl
      have e3 : upd (upd R0' 8 (Hp.Own.blk wr.heap.size #[.pointer (some ⟨gx, 0, none⟩)] 44)) 4 (Hp.Own.blk (wr.alloc (.cells #[.pointer (some ⟨gx, 0, none⟩)] 44)).heap.size #[.func (.func 48) #[] #[.pointer (some ⟨wr.heap.size, 0, none⟩)]] 63) 3 = Hp.Own.blk w2.heap.size #[.pointer (some ⟨gy, 0, none⟩)] 59 := by rw [hR0]; rfl
      rw [World.size_alloc] at HT3 e9 e5 e6 e3
      obtain ⟨R1, hR1⟩ : ∃ R, R = upd (upd R0' 8 (Hp.Own.blk wr.heap.size #[.pointer (some ⟨gx, 0, none⟩)] 44)) 4 (Hp.Own.blk (wr.heap.size + 1) #[.func (.func 48) #[] #[.pointer (some ⟨wr.heap.size, 0, none⟩)]] 63) := ⟨_, rfl⟩
      rw [← hR1] at HT3 e9 e5 e6 e3
      have HR0 := Lib.hid hR0
      have HR1 := Lib.hid hR1
      clear hW hR0 hR1 HT fx fy fb ly lg e8 e4
      have fy : W.cell? ⟨w2.heap.size, 0, none⟩ = some (.pointer (some ⟨gy, 0, none⟩)) := Blk.cell (by have := fO_ho 3 HT3.out.now; rw [e3] at this; exact this) 0
      have fb : W.cell? ⟨gy, 1, none⟩ = some (.int .i64 A.1) := (rO_cells (fO_hy HT3.out.now)).2.1
      have lyW : w2.heap.size < W.heap.size := Blk.lt (by have := fO_ho 3 HT3.out.now; rw [e3] at this; exact this)
      have lgW : gy < W.heap.size := Blk.lt (fO_hy HT3.out.now).1
      have nW1 : W.heap.size ≠ w2.heap.size := Nat.ne_of_gt lyW
      have nW2 : W.heap.size + 1 ≠ w2.heap.size := Nat.ne_of_gt (Nat.lt_succ_of_lt lyW)
      have nW3 : W.heap.size ≠ gy := Nat.ne_of_gt lgW
      have nW4 : W.heap.size + 1 ≠ gy := Nat.ne_of_gt (Nat.lt_succ_of_lt lgW)
      have E3 := Lib.hid e3
      clear e3
      go_cut [14, 15] from 70 to 79 (fun s14 s15 wx => ∃ (b14 b15 gc : Nat) (vc : Value), s14 = .pointer (some ⟨b14, 0, none⟩) ∧ s15 = .pointer (some ⟨b15, 0, none⟩) ∧ Turns w wx Hp.Own.emp (fO gx pbx gy room A A v (upd (upd (upd R1 9 (qO gc room vc A)) 5 (Hp.Own.blk b14 #[.int .i64 A.1] 3)) 6 (Hp.Own.blk b15 #[vc] 52))))
      case first J K2 hJ hK2 =>
        refine wp_region_noPanic ?_
        refine wp_region_held_drew (S := (fun w' => w'.cell? ⟨w2.heap.size, 0, none⟩ = some (.pointer (some ⟨gy, 0, none⟩)) ∧ w'.cell? ⟨gy, 1, none⟩ = some (.int .i64 A.1))) (by kernel_rfl) ?_ (fun hHeld => ?_)
        · exact ⟨fy, fb⟩
        (refine takeL 0 (v := ?_) rfl (by kernel_rfl) (by kernel_rfl) (by kernel_rfl) (fun _ _ _ h => h) (Or.inl ⟨by rfl, ?_⟩) (by assumption) ?_; rotate_left; (focus (intro w9 hSw; (try dsimp only at hSw); go_simp; try with_reducible rfl)); (try simp only [Act.put, List.setIfInBounds_toArray, List.set_cons_zero, List.set_cons_succ]))
        (refine takeL 1 (v := ?_) rfl (by kernel_rfl) (by kernel_rfl) (by kernel_rfl) (fun _ _ _ h => h) (Or.inl ⟨by rfl, ?_⟩) (by assumption) ?_; rotate_left; (focus (intro w9 hSw; (try dsimp only at hSw); go_simp; try with_reducible rfl)); (try simp only [Act.put, List.setIfInBounds_toArray, List.set_cons_zero, List.set_cons_succ]))
        (refine takeL 2 (v := ?_) rfl (by kernel_rfl) (by kernel_rfl) (by kernel_rfl) (fun _ _ _ h => h) (Or.inl ⟨by rfl, ?_⟩) (by assumption) ?_; rotate_left; (focus (intro w9 hSw; (try dsimp only at hSw); go_simp; try with_reducible rfl)); (try simp only [Act.put, List.setIfInBounds_toArray, List.set_cons_zero, List.set_cons_succ]))
        (refine takeL 3 (v := ?_) rfl (by kernel_rfl) (by kernel_rfl) (by kernel_rfl) (fun _ _ _ h => h) (Or.inl ⟨by rfl, ?_⟩) (by assumption) ?_; rotate_left; (focus (intro w9 hSw; (try dsimp only at hSw); go_simp; try with_reducible rfl)); (try simp only [Act.put, List.setIfInBounds_toArray, List.set_cons_zero, List.set_cons_succ]))
        (refine takeL 4 (v := ?_) rfl (by kernel_rfl) (by kernel_rfl) (by kernel_rfl) (fun _ _ _ h => h) (Or.inl ⟨by rfl, ?_⟩) (by assumption) ?_; rotate_left; (focus (intro w9 hSw; (try dsimp only at hSw); go_simp; try with_reducible rfl)); (try simp only [Act.put, List.setIfInBounds_toArray, List.set_cons_zero, List.set_cons_succ]))
        refine wpAnyH_ready (rs := [5, 9, 10]) (by kernel_rfl) (by simp) ?_
        refine consL 5 rfl (fun K hK => ?_) ?_
        ·
          go_simp
          refine (rClone gy room v A _ (by exact fO_hy HT3.out.drew.now) HOK.out).mono ?_; rintro r wA ⟨gc, vc, rfl, tA⟩; obtain ⟨Ac, cc, hvc⟩ := rO_slice tA.now; subst hvc; have hge := near_emp tA gc (Or.inl rfl); have hsA := tA.chg.size; simp only [World.size_drew] at hge hsA; have hgA : gc < wA.heap.size := Blk.lt tA.now.1; have qc : wA.cell? ⟨gc, 2, none⟩ = some (.slice Ac A.2.length cc) := (rO_cells tA.now).2.2; have qc1 : ∀ o, (wA.alloc o).cell? ⟨gc, 2, none⟩ = some (.slice Ac A.2.length cc) := fun o => (World.cell?_alloc_lt _ _ _ hgA).trans qc; have qc2 : ∀ o o', ((wA.alloc o).alloc o').cell? ⟨gc, 2, none⟩ = some (.slice Ac A.2.length cc) := fun o o' => (World.cell?_alloc_lt _ _ _ (Nat.lt_of_lt_of_le hgA (by simp))).trans (qc1 o); obtain ⟨r1, r2, r3, r4⟩ := ne4 hgA; obtain ⟨qy, qb, -⟩ := old_cells fy fb lyW lgW tA; obtain ⟨n5, n6, n7, n8⟩ := ne5 lyW lgW hsA; have HCA := Lib.hid (tA.drewl.chg.mono (T := fun _ => False) fun _ _ h => h.elim); have hsW : W.heap.size ≤ wA.heap.size := hsA; have hqf : ∀ b, (qO gc room (.slice Ac A.2.length cc) A).foot b → W.heap.size + 0 ≤ b := near_emp tA.drewl; have HQF := Lib.hid hqf; have HQL : Hid (∀ b, (qO gc room (.slice Ac A.2.length cc) A).foot b → b < wA.heap.size) := fun b hb => Hp.Own.lt _ tA.now b hb; clear hqf
          refine hK.out _ _ ?_ (fun hHeld => ?_)
          · go_keep
          clear hK K
          (try simp only [Act.put, List.setIfInBounds_toArray, List.set_cons_zero, List.set_cons_succ])
          refine wpAnyH_more (S2 := (fun w' => (w'.cell? ⟨w2.heap.size, 0, none⟩ = some (.pointer (some ⟨gy, 0, none⟩)) ∧ w'.cell? ⟨gy, 1, none⟩ = some (.int .i64 A.1)) ∧ w'.cell? ⟨gc, 2, none⟩ = some (.slice Ac A.2.length cc))) (fun _ h => h.1) ?_
          have hHeld2 := And.intro hHeld qc
          (refine takeL 6 (v := ?_) rfl (by kernel_rfl) (by kernel_rfl) (by kernel_rfl) (fun _ _ _ h => h) (Or.inl ⟨by rfl, ?_⟩) (by assumption) ?_; rotate_left; (focus (intro w9 hSw; (try dsimp only at hSw); go_simp; try with_reducible rfl)); (try simp only [Act.put, List.setIfInBounds_toArray, List.set_cons_zero, List.set_cons_succ]))
          (refine takeL 7 (v := ?_) rfl (by kernel_rfl) (by kernel_rfl) (by kernel_rfl) (fun _ _ _ h => h) (Or.inl ⟨by rfl, ?_⟩) (by assumption) ?_; rotate_left; (focus (intro w9 hSw; (try dsimp only at hSw); go_simp; try with_reducible rfl)); (try simp only [Act.put, List.setIfInBounds_toArray, List.set_cons_zero, List.set_cons_succ]))
          (refine takeL 8 (v := ?_) rfl (by kernel_rfl) (by kernel_rfl) (by kernel_rfl) (fun _ _ _ h => h) (Or.inl ⟨by rfl, ?_⟩) (by assumption) ?_; rotate_left; (focus (intro w9 hSw; (try dsimp only at hSw); go_simp; try with_reducible rfl)); (try simp only [Act.put, List.setIfInBounds_toArray, List.set_cons_zero, List.set_cons_succ]))
          refine wpAnyH_ready (rs := [9, 10]) (by kernel_rfl) (by simp) ?_
          refine consL 9 rfl (fun K hK => ?_) ?_
          ·
            go_simp
            refine hK.out _ _ ?_ (fun hHeld => ?_)
            · go_keep
            clear hK K
            (try simp only [Act.put, List.setIfInBounds_toArray, List.set_cons_zero, List.set_cons_succ])
            refine wpAnyH_ready (rs := [10]) (by kernel_rfl) (by simp) ?_
            refine consL 10 rfl (fun K hK => ?_) AllReadyH.nil
            go_simp
            refine hK.out _ _ ?_ (fun hHeld => ?_)
            · go_keep
            clear hK K
            (try simp only [Act.put, List.setIfInBounds_toArray, List.set_cons_zero, List.set_cons_succ])
            refine wpAnyH_ready (rs := [11]) (by kernel_rfl) (by simp) ?_
            refine consL 11 rfl (fun K hK => ?_) AllReadyH.nil
            go_simp
            refine hK.out _ _ ?_ (fun hHeld => ?_)
            · go_keep
            clear hK K
            (try simp only [Act.put, List.setIfInBounds_toArray, List.set_cons_zero, List.set_cons_succ])
            refine wpAnyH_ready (rs := [12]) (by kernel_rfl) (by simp) ?_
            refine consL 12 rfl (fun K hK => ?_) AllReadyH.nil
            go_simp
            refine hK.out _ _ ?_ (fun hHeld => ?_)
            · go_keep
            clear hK K
            (try simp only [Act.put, List.setIfInBounds_toArray, List.set_cons_zero, List.set_cons_succ])
            refine wpAnyH_done (by kernel_rfl) (NoPanic.normal ?_) _
            refine hK2 _ _ (Met.intro (hJ _ _ ?_))
            repeat apply Exists.intro
            refine And.intro ?_ rfl
            refine ⟨_, _, gc, .slice Ac A.2.length cc, rfl, rfl, ?_⟩
            clear hJ hK2
            first
            | with_reducible exact put_a HT3.out e9 e5 e6 tA
            | with_reducible exact put_b HT3.out e9 e5 e6 tA
            | with_reducible exact put_c HT3.out e9 e5 e6 tA
            | with_reducible exact put_d HT3.out e9 e5 e6 tA
            | with_reducible exact put_e HT3.out e9 e5 e6 tA
            | with_reducible exact put_f HT3.out e9 e5 e6 tA
          refine consL 10 rfl (fun K hK => ?_) AllReadyH.nil
          go_simp
          refine hK.out _ _ ?_ (fun hHeld => ?_)
          · go_keep
          clear hK K
          (try simp only [Act.put, List.setIfInBounds_toArray, List.set_cons_zero, List.set_cons_succ])
          refine wpAnyH_ready (rs := [9]) (by kernel_rfl) (by simp) ?_
          refine consL 9 rfl (fun K hK => ?_) AllReadyH.nil
          go_simp
          refine hK.out _ _ ?_ (fun hHeld => ?_)
          · go_keep
          clear hK K
          (try simp only [Act.put, List.setIfInBounds_toArray, List.set_cons_zero, List.set_cons_succ])
          refine wpAnyH_ready (rs := [11]) (by kernel_rfl) (by simp) ?_
          refine consL 11 rfl (fun K hK => ?_) AllReadyH.nil
          go_simp
          refine hK.out _ _ ?_ (fun hHeld => ?_)
          · go_keep
          clear hK K
          (try simp only [Act.put, List.setIfInBounds_toArray, List.set_cons_zero, List.set_cons_succ])
          refine wpAnyH_ready (rs := [12]) (by kernel_rfl) (by simp) ?_
          refine consL 12 rfl (fun K hK => ?_) AllReadyH.nil
          go_simp
          refine hK.out _ _ ?_ (fun hHeld => ?_)
          · go_keep
          clear hK K
          (try simp only [Act.put, List.setIfInBounds_toArray, List.set_cons_zero, List.set_cons_succ])
          refine wpAnyH_done (by kernel_rfl) (NoPanic.normal ?_) _
          refine hK2 _ _ (Met.intro (hJ _ _ ?_))
          repeat apply Exists.intro
          refine And.intro ?_ rfl
          refine ⟨_, _, gc, .slice Ac A.2.length cc, rfl, rfl, ?_⟩
          clear hJ hK2
          first
          | with_reducible exact put_a HT3.out e9 e5 e6 tA
          | with_reducible exact put_b HT3.out e9 e5 e6 tA
          | with_reducible exact put_c HT3.out e9 e5 e6 tA
          | with_reducible exact put_d HT3.out e9 e5 e6 tA
          | with_reducible exact put_e HT3.out e9 e5 e6 tA
          | with_reducible exact put_f HT3.out e9 e5 e6 tA
        refine consL 9 rfl (fun K hK => ?_) ?_
        ·
          go_simp
          refine hK.out _ _ ?_ (fun hHeld => ?_)
          · go_keep
          clear hK K
          (try simp only [Act.put, List.setIfInBounds_toArray, List.set_cons_zero, List.set_cons_succ])
          refine wpAnyH_ready (rs := [5, 10]) (by kernel_rfl) (by simp) ?_
          refine consL 5 rfl (fun K hK => ?_) ?_
          ·
            go_simp
            refine (rClone gy room v A _ (by exact fO_hy (HT3.out.alloc _).drew.now) HOK.out).mono ?_; rintro r wA ⟨gc, vc, rfl, tA⟩; obtain ⟨Ac, cc, hvc⟩ := rO_slice tA.now; subst hvc; have hge := near_emp tA gc (Or.inl rfl); have hsA := tA.chg.size; simp only [World.size_alloc, World.size_drew] at hge hsA; have hgA : gc < wA.heap.size := Blk.lt tA.now.1; have qc : wA.cell? ⟨gc, 2, none⟩ = some (.slice Ac A.2.length cc) := (rO_cells tA.now).2.2; have qc1 : ∀ o, (wA.alloc o).cell? ⟨gc, 2, none⟩ = some (.slice Ac A.2.length cc) := fun o => (World.cell?_alloc_lt _ _ _ hgA).trans qc; have qc2 : ∀ o o', ((wA.alloc o).alloc o').cell? ⟨gc, 2, none⟩ = some (.slice Ac A.2.length cc) := fun o o' => (World.cell?_alloc_lt _ _ _ (Nat.lt_of_lt_of_le hgA (by simp))).trans (qc1 o); obtain ⟨r1, r2, r3, r4⟩ := ne4 hgA; obtain ⟨qy, qb, -⟩ := old_cells ((World.cell?_alloc_lt _ _ _ lyW).trans fy) ((World.cell?_alloc_lt _ _ _ lgW).trans fb) (Nat.lt_of_lt_of_le lyW (by simp)) (Nat.lt_of_lt_of_le lgW (by simp)) tA; obtain ⟨r5, r7⟩ := ne1 hge; obtain ⟨b1, b2⟩ := box_d tA; obtain ⟨b3, b4, r9, r10⟩ := box_more hsA b1 b2; obtain ⟨n5, n6, n7, n8⟩ := ne5 lyW lgW (Nat.le_of_succ_le hsA); have HCA := Lib.hid ((((Chg.refl (fun _ => False) W).alloc _).drew).trans (tA.chg.mono fun _ _ h => h.elim)); have hsW : W.heap.size ≤ wA.heap.size := Nat.le_of_succ_le hsA; have HB1 := Lib.hid (box_1 tA); have hqf : ∀ b, (qO gc room (.slice Ac A.2.length cc) A).foot b → W.heap.size + 1 ≤ b := near_emp1 tA; have HQF := Lib.hid hqf; have HQL : Hid (∀ b, (qO gc room (.slice Ac A.2.length cc) A).foot b → b < wA.heap.size) := fun b hb => Hp.Own.lt _ tA.now b hb; clear hqf
            refine hK.out _ _ ?_ (fun hHeld => ?_)
            · go_keep
            clear hK K
            (try simp only [Act.put, List.setIfInBounds_toArray, List.set_cons_zero, List.set_cons_succ])
            refine wpAnyH_more (S2 := (fun w' => (w'.cell? ⟨w2.heap.size, 0, none⟩ = some (.pointer (some ⟨gy, 0, none⟩)) ∧ w'.cell? ⟨gy, 1, none⟩ = some (.int .i64 A.1)) ∧ w'.cell? ⟨gc, 2, none⟩ = some (.slice Ac A.2.length cc))) (fun _ h => h.1) ?_
            have hHeld2 := And.intro hHeld qc
            (refine takeL 6 (v := ?_) rfl (by kernel_rfl) (by kernel_rfl) (by kernel_rfl) (fun _ _ _ h => h) (Or.inl ⟨by rfl, ?_⟩) (by assumption) ?_; rotate_left; (focus (intro w9 hSw; (try dsimp only at hSw); go_simp; try with_reducible rfl)); (try simp only [Act.put, List.setIfInBounds_toArray, List.set_cons_zero, List.set_cons_succ]))
            (refine takeL 7 (v := ?_) rfl (by kernel_rfl) (by kernel_rfl) (by kernel_rfl) (fun _ _ _ h => h) (Or.inl ⟨by rfl, ?_⟩) (by assumption) ?_; rotate_left; (focus (intro w9 hSw; (try dsimp only at hSw); go_simp; try with_reducible rfl)); (try simp only [Act.put, List.setIfInBounds_toArray, List.set_cons_zero, List.set_cons_succ]))
            (refine takeL 8 (v := ?_) rfl (by kernel_rfl) (by kernel_rfl) (by kernel_rfl) (fun _ _ _ h => h) (Or.inl ⟨by rfl, ?_⟩) (by assumption) ?_; rotate_left; (focus (intro w9 hSw; (try dsimp only at hSw); go_simp; try with_reducible rfl)); (try simp only [Act.put, List.setIfInBounds_toArray, List.set_cons_zero, List.set_cons_succ]))
            refine wpAnyH_ready (rs := [10]) (by kernel_rfl) (by simp) ?_
            refine consL 10 rfl (fun K hK => ?_) AllReadyH.nil
            go_simp
            refine hK.out _ _ ?_ (fun hHeld => ?_)
            · go_keep
            clear hK K
            (try simp only [Act.put, List.setIfInBounds_toArray, List.set_cons_zero, List.set_cons_succ])
            refine wpAnyH_ready (rs := [11]) (by kernel_rfl) (by simp) ?_
            refine consL 11 rfl (fun K hK => ?_) AllReadyH.nil
            go_simp
            refine hK.out _ _ ?_ (fun hHeld => ?_)
            · go_keep
            clear hK K
            (try simp only [Act.put, List.setIfInBounds_toArray, List.set_cons_zero, List.set_cons_succ])
            refine wpAnyH_ready (rs := [12]) (by kernel_rfl) (by simp) ?_
            refine consL 12 rfl (fun K hK => ?_) AllReadyH.nil
            go_simp
            refine hK.out _ _ ?_ (fun hHeld => ?_)
            · go_keep
            clear hK K
            (try simp only [Act.put, List.setIfInBounds_toArray, List.set_cons_zero, List.set_cons_succ])
            refine wpAnyH_done (by kernel_rfl) (NoPanic.normal ?_) _
            refine hK2 _ _ (Met.intro (hJ _ _ ?_))
            repeat apply Exists.intro
            refine And.intro ?_ rfl
            refine ⟨_, _, gc, .slice Ac A.2.length cc, rfl, rfl, ?_⟩
            clear hJ hK2
            first
            | with_reducible exact put_a HT3.out e9 e5 e6 tA
            | with_reducible exact put_b HT3.out e9 e5 e6 tA
            | with_reducible exact put_c HT3.out e9 e5 e6 tA
            | with_reducible exact put_d HT3.out e9 e5 e6 tA
            | with_reducible exact put_e HT3.out e9 e5 e6 tA
            | with_reducible exact put_f HT3.out e9 e5 e6 tA
          refine consL 10 rfl (fun K hK => ?_) AllReadyH.nil
          go_simp
          refine hK.out _ _ ?_ (fun hHeld => ?_)
          · go_keep
          clear hK K
          (try simp only [Act.put, List.setIfInBounds_toArray, List.set_cons_zero, List.set_cons_succ])
          refine wpAnyH_ready (rs := [5]) (by kernel_rfl) (by simp) ?_
          refine consL 5 rfl (fun K hK => ?_) AllReadyH.nil
          go_simp
          refine (rClone gy room v A _ (by exact fO_hy ((HT3.out.alloc _).alloc _).drew.now) HOK.out).mono ?_; rintro r wA ⟨gc, vc, rfl, tA⟩; obtain ⟨Ac, cc, hvc⟩ := rO_slice tA.now; subst hvc; have hge := near_emp tA gc (Or.inl rfl); have hsA := tA.chg.size; simp only [World.size_alloc, World.size_drew] at hge hsA; have hgA : gc < wA.heap.size := Blk.lt tA.now.1; have qc : wA.cell? ⟨gc, 2, none⟩ = some (.slice Ac A.2.length cc) := (rO_cells tA.now).2.2; have qc1 : ∀ o, (wA.alloc o).cell? ⟨gc, 2, none⟩ = some (.slice Ac A.2.length cc) := fun o => (World.cell?_alloc_lt _ _ _ hgA).trans qc; have qc2 : ∀ o o', ((wA.alloc o).alloc o').cell? ⟨gc, 2, none⟩ = some (.slice Ac A.2.length cc) := fun o o' => (World.cell?_alloc_lt _ _ _ (Nat.lt_of_lt_of_le hgA (by simp))).trans (qc1 o); obtain ⟨r1, r2, r3, r4⟩ := ne4 hgA; obtain ⟨qy, qb, -⟩ := old_cells ((World.cell?_alloc_lt _ _ _ (Nat.lt_of_lt_of_le lyW (by simp))).trans ((World.cell?_alloc_lt _ _ _ lyW).trans fy)) ((World.cell?_alloc_lt _ _ _ (Nat.lt_of_lt_of_le lgW (by simp))).trans ((World.cell?_alloc_lt _ _ _ lgW).trans fb)) (Nat.lt_of_lt_of_le lyW (by simp; omega)) (Nat.lt_of_lt_of_le lgW (by simp; omega)) tA; obtain ⟨r5, r6, r7, r8⟩ := ne2 hge; obtain ⟨b1, b2, b3, b4⟩ := box_dd tA; obtain ⟨n5, n6, n7, n8⟩ := ne5 lyW lgW (Nat.le_of_succ_le (Nat.le_of_succ_le hsA)); have HCA := Lib.hid (((((Chg.refl (fun _ => False) W).alloc _).alloc _).drew).trans (tA.chg.mono fun _ _ h => h.elim)); have hsW : W.heap.size ≤ wA.heap.size := Nat.le_of_succ_le (Nat.le_of_succ_le hsA); have HB1 := Lib.hid (box_2 tA).1; have HB2 := Lib.hid (box_2 tA).2; have hqf : ∀ b, (qO gc room (.slice Ac A.2.length cc) A).foot b → W.heap.size + 2 ≤ b := near_emp2 tA; have HQF := Lib.hid hqf; have HQL : Hid (∀ b, (qO gc room (.slice Ac A.2.length cc) A).foot b → b < wA.heap.size) := fun b hb => Hp.Own.lt _ tA.now b hb; clear hqf
          refine hK.out _ _ ?_ (fun hHeld => ?_)
          · go_keep
          clear hK K
          (try simp only [Act.put, List.setIfInBounds_toArray, List.set_cons_zero, List.set_cons_succ])
          refine wpAnyH_more (S2 := (fun w' => (w'.cell? ⟨w2.heap.size, 0, none⟩ = some (.pointer (some ⟨gy, 0, none⟩)) ∧ w'.cell? ⟨gy, 1, none⟩ = some (.int .i64 A.1)) ∧ w'.cell? ⟨gc, 2, none⟩ = some (.slice Ac A.2.length cc))) (fun _ h => h.1) ?_
          have hHeld2 := And.intro hHeld qc
          (refine takeL 6 (v := ?_) rfl (by kernel_rfl) (by kernel_rfl) (by kernel_rfl) (fun _ _ _ h => h) (Or.inl ⟨by rfl, ?_⟩) (by assumption) ?_; rotate_left; (focus (intro w9 hSw; (try dsimp only at hSw); go_simp; try with_reducible rfl)); (try simp only [Act.put, List.setIfInBounds_toArray, List.set_cons_zero, List.set_cons_succ]))
          (refine takeL 7 (v := ?_) rfl (by kernel_rfl) (by kernel_rfl) (by kernel_rfl) (fun _ _ _ h => h) (Or.inl ⟨by rfl, ?_⟩) (by assumption) ?_; rotate_left; (focus (intro w9 hSw; (try dsimp only at hSw); go_simp; try with_reducible rfl)); (try simp only [Act.put, List.setIfInBounds_toArray, List.set_cons_zero, List.set_cons_succ]))
          (refine takeL 8 (v := ?_) rfl (by kernel_rfl) (by kernel_rfl) (by kernel_rfl) (fun _ _ _ h => h) (Or.inl ⟨by rfl, ?_⟩) (by assumption) ?_; rotate_left; (focus (intro w9 hSw; (try dsimp only at hSw); go_simp; try with_reducible rfl)); (try simp only [Act.put, List.setIfInBounds_toArray, List.set_cons_zero, List.set_cons_succ]))
          refine wpAnyH_ready (rs := [11]) (by kernel_rfl) (by simp) ?_
          refine consL 11 rfl (fun K hK => ?_) AllReadyH.nil
          go_simp
          refine hK.out _ _ ?_ (fun hHeld => ?_)
          · go_keep
          clear hK K
          (try simp only [Act.put, List.setIfInBounds_toArray, List.set_cons_zero, List.set_cons_succ])
          refine wpAnyH_ready (rs := [12]) (by kernel_rfl) (by simp) ?_
          refine consL 12 rfl (fun K hK => ?_) AllReadyH.nil
          go_simp
          refine hK.out _ _ ?_ (fun hHeld => ?_)
          · go_keep
          clear hK K
          (try simp only [Act.put, List.setIfInBounds_toArray, List.set_cons_zero, List.set_cons_succ])
          refine wpAnyH_done (by kernel_rfl) (NoPanic.normal ?_) _
          refine hK2 _ _ (Met.intro (hJ _ _ ?_))
          repeat apply Exists.intro
          refine And.intro ?_ rfl
          refine ⟨_, _, gc, .slice Ac A.2.length cc, rfl, rfl, ?_⟩
          clear hJ hK2
          first
          | with_reducible exact put_a HT3.out e9 e5 e6 tA
          | with_reducible exact put_b HT3.out e9 e5 e6 tA
          | with_reducible exact put_c HT3.out e9 e5 e6 tA
          | with_reducible exact put_d HT3.out e9 e5 e6 tA
          | with_reducible exact put_e HT3.out e9 e5 e6 tA
          | with_reducible exact put_f HT3.out e9 e5 e6 tA
        refine consL 10 rfl (fun K hK => ?_) AllReadyH.nil
        go_simp
        refine hK.out _ _ ?_ (fun hHeld => ?_)
        · go_keep
        clear hK K
        (try simp only [Act.put, List.setIfInBounds_toArray, List.set_cons_zero, List.set_cons_succ])
        refine wpAnyH_ready (rs := [5, 9]) (by kernel_rfl) (by simp) ?_
        refine consL 5 rfl (fun K hK => ?_) ?_
        ·
          go_simp
          refine (rClone gy room v A _ (by exact fO_hy (HT3.out.alloc _).drew.now) HOK.out).mono ?_; rintro r wA ⟨gc, vc, rfl, tA⟩; obtain ⟨Ac, cc, hvc⟩ := rO_slice tA.now; subst hvc; have hge := near_emp tA gc (Or.inl rfl); have hsA := tA.chg.size; simp only [World.size_alloc, World.size_drew] at hge hsA; have hgA : gc < wA.heap.size := Blk.lt tA.now.1; have qc : wA.cell? ⟨gc, 2, none⟩ = some (.slice Ac A.2.length cc) := (rO_cells tA.now).2.2; have qc1 : ∀ o, (wA.alloc o).cell? ⟨gc, 2, none⟩ = some (.slice Ac A.2.length cc) := fun o => (World.cell?_alloc_lt _ _ _ hgA).trans qc; have qc2 : ∀ o o', ((wA.alloc o).alloc o').cell? ⟨gc, 2, none⟩ = some (.slice Ac A.2.length cc) := fun o o' => (World.cell?_alloc_lt _ _ _ (Nat.lt_of_lt_of_le hgA (by simp))).trans (qc1 o); obtain ⟨r1, r2, r3, r4⟩ := ne4 hgA; obtain ⟨qy, qb, -⟩ := old_cells ((World.cell?_alloc_lt _ _ _ lyW).trans fy) ((World.cell?_alloc_lt _ _ _ lgW).trans fb) (Nat.lt_of_lt_of_le lyW (by simp)) (Nat.lt_of_lt_of_le lgW (by simp)) tA; obtain ⟨r5, r7⟩ := ne1 hge; obtain ⟨b1, b2⟩ := box_d tA; obtain ⟨b3, b4, r9, r10⟩ := box_more hsA b1 b2; obtain ⟨n5, n6, n7, n8⟩ := ne5 lyW lgW (Nat.le_of_succ_le hsA); have HCA := Lib.hid ((((Chg.refl (fun _ => False) W).alloc _).drew).trans (tA.chg.mono fun _ _ h => h.elim)); have hsW : W.heap.size ≤ wA.heap.size := Nat.le_of_succ_le hsA; have HB1 := Lib.hid (box_1 tA); have hqf : ∀ b, (qO gc room (.slice Ac A.2.length cc) A).foot b → W.heap.size + 1 ≤ b := near_emp1 tA; have HQF := Lib.hid hqf; have HQL : Hid (∀ b, (qO gc room (.slice Ac A.2.length cc) A).foot b → b < wA.heap.size) := fun b hb => Hp.Own.lt _ tA.now b hb; clear hqf
          refine hK.out _ _ ?_ (fun hHeld => ?_)
          · go_keep
          clear hK K
          (try simp only [Act.put, List.setIfInBounds_toArray, List.set_cons_zero, List.set_cons_succ])
          refine wpAnyH_more (S2 := (fun w' => (w'.cell? ⟨w2.heap.size, 0, none⟩ = some (.pointer (some ⟨gy, 0, none⟩)) ∧ w'.cell? ⟨gy, 1, none⟩ = some (.int .i64 A.1)) ∧ w'.cell? ⟨gc, 2, none⟩ = some (.slice Ac A.2.length cc))) (fun _ h => h.1) ?_
          have hHeld2 := And.intro hHeld qc
          (refine takeL 6 (v := ?_) rfl (by kernel_rfl) (by kernel_rfl) (by kernel_rfl) (fun _ _ _ h => h) (Or.inl ⟨by rfl, ?_⟩) (by assumption) ?_; rotate_left; (focus (intro w9 hSw; (try dsimp only at hSw); go_simp; try with_reducible rfl)); (try simp only [Act.put, List.setIfInBounds_toArray, List.set_cons_zero, List.set_cons_succ]))
          (refine takeL 7 (v := ?_) rfl (by kernel_rfl) (by kernel_rfl) (by kernel_rfl) (fun _ _ _ h => h) (Or.inl ⟨by rfl, ?_⟩) (by assumption) ?_; rotate_left; (focus (intro w9 hSw; (try dsimp only at hSw); go_simp; try with_reducible rfl)); (try simp only [Act.put, List.setIfInBounds_toArray, List.set_cons_zero, List.set_cons_succ]))
          (refine takeL 8 (v := ?_) rfl (by kernel_rfl) (by kernel_rfl) (by kernel_rfl) (fun _ _ _ h => h) (Or.inl ⟨by rfl, ?_⟩) (by assumption) ?_; rotate_left; (focus (intro w9 hSw; (try dsimp only at hSw); go_simp; try with_reducible rfl)); (try simp only [Act.put, List.setIfInBounds_toArray, List.set_cons_zero, List.set_cons_succ]))
          refine wpAnyH_ready (rs := [9]) (by kernel_rfl) (by simp) ?_
          refine consL 9 rfl (fun K hK => ?_) AllReadyH.nil
          go_simp
          refine hK.out _ _ ?_ (fun hHeld => ?_)
          · go_keep
          clear hK K
          (try simp only [Act.put, List.setIfInBounds_toArray, List.set_cons_zero, List.set_cons_succ])
          refine wpAnyH_ready (rs := [11]) (by kernel_rfl) (by simp) ?_
          refine consL 11 rfl (fun K hK => ?_) AllReadyH.nil
          go_simp
          refine hK.out _ _ ?_ (fun hHeld => ?_)
          · go_keep
          clear hK K
          (try simp only [Act.put, List.setIfInBounds_toArray, List.set_cons_zero, List.set_cons_succ])
          refine wpAnyH_ready (rs := [12]) (by kernel_rfl) (by simp) ?_
          refine consL 12 rfl (fun K hK => ?_) AllReadyH.nil
          go_simp
          refine hK.out _ _ ?_ (fun hHeld => ?_)
          · go_keep
          clear hK K
          (try simp only [Act.put, List.setIfInBounds_toArray, List.set_cons_zero, List.set_cons_succ])
          refine wpAnyH_done (by kernel_rfl) (NoPanic.normal ?_) _
          refine hK2 _ _ (Met.intro (hJ _ _ ?_))
          repeat apply Exists.intro
          refine And.intro ?_ rfl
          refine ⟨_, _, gc, .slice Ac A.2.length cc, rfl, rfl, ?_⟩
          clear hJ hK2
          first
          | with_reducible exact put_a HT3.out e9 e5 e6 tA
          | with_reducible exact put_b HT3.out e9 e5 e6 tA
          | with_reducible exact put_c HT3.out e9 e5 e6 tA
          | with_reducible exact put_d HT3.out e9 e5 e6 tA
          | with_reducible exact put_e HT3.out e9 e5 e6 tA
          | with_reducible exact put_f HT3.out e9 e5 e6 tA
        refine consL 9 rfl (fun K hK => ?_) AllReadyH.nil
        go_simp
        refine hK.out _ _ ?_ (fun hHeld => ?_)
        · go_keep
        clear hK K
        (try simp only [Act.put, List.setIfInBounds_toArray, List.set_cons_zero, List.set_cons_succ])
        refine wpAnyH_ready (rs := [5]) (by kernel_rfl) (by simp) ?_
        refine consL 5 rfl (fun K hK => ?_) AllReadyH.nil
        go_simp
        refine (rClone gy room v A _ (by exact fO_hy ((HT3.out.alloc _).alloc _).drew.now) HOK.out).mono ?_; rintro r wA ⟨gc, vc, rfl, tA⟩; obtain ⟨Ac, cc, hvc⟩ := rO_slice tA.now; subst hvc; have hge := near_emp tA gc (Or.inl rfl); have hsA := tA.chg.size; simp only [World.size_alloc, World.size_drew] at hge hsA; have hgA : gc < wA.heap.size := Blk.lt tA.now.1; have qc : wA.cell? ⟨gc, 2, none⟩ = some (.slice Ac A.2.length cc) := (rO_cells tA.now).2.2; have qc1 : ∀ o, (wA.alloc o).cell? ⟨gc, 2, none⟩ = some (.slice Ac A.2.length cc) := fun o => (World.cell?_alloc_lt _ _ _ hgA).trans qc; have qc2 : ∀ o o', ((wA.alloc o).alloc o').cell? ⟨gc, 2, none⟩ = some (.slice Ac A.2.length cc) := fun o o' => (World.cell?_alloc_lt _ _ _ (Nat.lt_of_lt_of_le hgA (by simp))).trans (qc1 o); obtain ⟨r1, r2, r3, r4⟩ := ne4 hgA; obtain ⟨qy, qb, -⟩ := old_cells ((World.cell?_alloc_lt _ _ _ (Nat.lt_of_lt_of_le lyW (by simp))).trans ((World.cell?_alloc_lt _ _ _ lyW).trans fy)) ((World.cell?_alloc_lt _ _ _ (Nat.lt_of_lt_of_le lgW (by simp))).trans ((World.cell?_alloc_lt _ _ _ lgW).trans fb)) (Nat.lt_of_lt_of_le lyW (by simp; omega)) (Nat.lt_of_lt_of_le lgW (by simp; omega)) tA; obtain ⟨r5, r6, r7, r8⟩ := ne2 hge; obtain ⟨b1, b2, b3, b4⟩ := box_dd tA; obtain ⟨n5, n6, n7, n8⟩ := ne5 lyW lgW (Nat.le_of_succ_le (Nat.le_of_succ_le hsA)); have HCA := Lib.hid (((((Chg.refl (fun _ => False) W).alloc _).alloc _).drew).trans (tA.chg.mono fun _ _ h => h.elim)); have hsW : W.heap.size ≤ wA.heap.size := Nat.le_of_succ_le (Nat.le_of_succ_le hsA); have HB1 := Lib.hid (box_2 tA).1; have HB2 := Lib.hid (box_2 tA).2; have hqf : ∀ b, (qO gc room (.slice Ac A.2.length cc) A).foot b → W.heap.size + 2 ≤ b := near_emp2 tA; have HQF := Lib.hid hqf; have HQL : Hid (∀ b, (qO gc room (.slice Ac A.2.length cc) A).foot b → b < wA.heap.size) := fun b hb => Hp.Own.lt _ tA.now b hb; clear hqf
        refine hK.out _ _ ?_ (fun hHeld => ?_)
        · go_keep
        clear hK K
        (try simp only [Act.put, List.setIfInBounds_toArray, List.set_cons_zero, List.set_cons_succ])
        refine wpAnyH_more (S2 := (fun w' => (w'.cell? ⟨w2.heap.size, 0, none⟩ = some (.pointer (some ⟨gy, 0, none⟩)) ∧ w'.cell? ⟨gy, 1, none⟩ = some (.int .i64 A.1)) ∧ w'.cell? ⟨gc, 2, none⟩ = some (.slice Ac A.2.length cc))) (fun _ h => h.1) ?_
        have hHeld2 := And.intro hHeld qc
        (refine takeL 6 (v := ?_) rfl (by kernel_rfl) (by kernel_rfl) (by kernel_rfl) (fun _ _ _ h => h) (Or.inl ⟨by rfl, ?_⟩) (by assumption) ?_; rotate_left; (focus (intro w9 hSw; (try dsimp only at hSw); go_simp; try with_reducible rfl)); (try simp only [Act.put, List.setIfInBounds_toArray, List.set_cons_zero, List.set_cons_succ]))
        (refine takeL 7 (v := ?_) rfl (by kernel_rfl) (by kernel_rfl) (by kernel_rfl) (fun _ _ _ h => h) (Or.inl ⟨by rfl, ?_⟩) (by assumption) ?_; rotate_left; (focus (intro w9 hSw; (try dsimp only at hSw); go_simp; try with_reducible rfl)); (try simp only [Act.put, List.setIfInBounds_toArray, List.set_cons_zero, List.set_cons_succ]))
        (refine takeL 8 (v := ?_) rfl (by kernel_rfl) (by kernel_rfl) (by kernel_rfl) (fun _ _ _ h => h) (Or.inl ⟨by rfl, ?_⟩) (by assumption) ?_; rotate_left; (focus (intro w9 hSw; (try dsimp only at hSw); go_simp; try with_reducible rfl)); (try simp only [Act.put, List.setIfInBounds_toArray, List.set_cons_zero, List.set_cons_succ]))
        refine wpAnyH_ready (rs := [11]) (by kernel_rfl) (by simp) ?_
        refine consL 11 rfl (fun K hK => ?_) AllReadyH.nil
        go_simp
        refine hK.out _ _ ?_ (fun hHeld => ?_)
        · go_keep
        clear hK K
        (try simp only [Act.put, List.setIfInBounds_toArray, List.set_cons_zero, List.set_cons_succ])
        refine wpAnyH_ready (rs := [12]) (by kernel_rfl) (by simp) ?_
        refine consL 12 rfl (fun K hK => ?_) AllReadyH.nil
        go_simp
        refine hK.out _ _ ?_ (fun hHeld => ?_)
        · go_keep
        clear hK K
        (try simp only [Act.put, List.setIfInBounds_toArray, List.set_cons_zero, List.set_cons_succ])
        refine wpAnyH_done (by kernel_rfl) (NoPanic.normal ?_) _
        refine hK2 _ _ (Met.intro (hJ _ _ ?_))
        repeat apply Exists.intro
        refine And.intro ?_ rfl
        refine ⟨_, _, gc, .slice Ac A.2.length cc, rfl, rfl, ?_⟩
        clear hJ hK2
        first
        | with_reducible exact put_a HT3.out e9 e5 e6 tA
        | with_reducible exact put_b HT3.out e9 e5 e6 tA
        | with_reducible exact put_c HT3.out e9 e5 e6 tA
        | with_reducible exact put_d HT3.out e9 e5 e6 tA
        | with_reducible exact put_e HT3.out e9 e5 e6 tA
        | with_reducible exact put_f HT3.out e9 e5 e6 tA
      case rest =>
        obtain ⟨b14, b15, gc, vc, rfl, rfl, htc⟩ := hcut
        obtain ⟨R2, hR2⟩ : ∃ R, R = upd (upd (upd R1 9 (qO gc room vc A)) 5 (Hp.Own.blk b14 #[.int .i64 A.1] 3)) 6 (Hp.Own.blk b15 #[vc] 52) := ⟨_, rfl⟩
        rw [← hR2] at htc
        have e7 : R2 7 = Hp.Own.emp := by rw [hR2]; simp [upd]; rw [HR1.out]; simp [upd]; rw [HR0.out]; rfl
        have e4 : R2 4 = Hp.Own.blk (wr.heap.size + 1) #[.func (.func 48) #[] #[.pointer (some ⟨wr.heap.size, 0, none⟩)]] 63 := by rw [hR2]; simp [upd]; rw [HR1.out]; simp [upd]
        have HT5 := Lib.hid (fO_new 7 e7 htc (Turns.blk_new wc #[.int .i64 0] 3))
        have e4' : upd R2 7 (Hp.Own.blk wc.heap.size #[.int .i64 0] 3) 4 = Hp.Own.blk (wr.heap.size + 1) #[.func (.func 48) #[] #[.pointer (some ⟨wr.heap.size, 0, none⟩)]] 63 := by simp [upd, e4]
        have ff : (wc.alloc (.cells #[.int .i64 0] 3)).cell? ⟨wr.heap.size + 1, 0, none⟩ = some (.func (.func 48) #[] #[.pointer (some ⟨wr.heap.size, 0, none⟩)]) := Blk.cell (by have := fO_ho 4 HT5.out.now; rw [e4'] at this; exact this) 0
        go_wp2_with fail
        refine (wpIn_wide (n := 5)).1 ?_
        obtain ⟨W0, hW0⟩ : ∃ W, W = wc.alloc (.cells #[.int .i64 0] 3) := ⟨_, rfl⟩
        rw [← hW0] at HT5 ff ⊢
        obtain ⟨bI, hbI⟩ : ∃ b, b = wc.heap.size := ⟨_, rfl⟩
        rw [← hbI] at HT5 e4' ⊢
        have hRc : ∀ j, Celled (R2 j) := by
          rw [hR2, HR1.out, HR0.out]
          exact celled_upd (celled_upd (celled_upd (celled_upd (celled_upd (celled_R0 _ _ _ _ _ _ _) 8 (celled_blk _ _ _)) 4 (celled_blk _ _ _)) 9 (celled_qO _ _ _ _)) 5 (celled_blk _ _ _)) 6 (celled_blk _ _ _)
        have e8 : R2 8 = Hp.Own.blk wr.heap.size #[.pointer (some ⟨gx, 0, none⟩)] 44 := by rw [hR2]; simp [upd]; rw [HR1.out]; simp [upd]
        have e8' : upd R2 7 (Hp.Own.blk bI #[.int .i64 0] 3) 8 = Hp.Own.blk wr.heap.size #[.pointer (some ⟨gx, 0, none⟩)] 44 := by simp [upd, e8]
        have f8 := fO_ho 8 HT5.out.now
        rw [e8'] at f8
        have lg0 : gy < W0.heap.size := Blk.lt (fO_hy HT5.out.now).1
        have hp0 : ∀ b, pts W0 ⟨gy, 2, none⟩ b → b < W0.heap.size := fun b hb => pts_lt HT5.out.now b hb
        have HRC := Lib.hid hRc
        have HRD := Lib.hid (show R2 4 = Hp.Own.blk (wr.heap.size + 1) #[.func (.func 48) #[] #[.pointer (some ⟨wr.heap.size, 0, none⟩)]] 63 ∧ R2 8 = Hp.Own.blk wr.heap.size #[.pointer (some ⟨gx, 0, none⟩)] 44 ∧ R2 = upd (upd (upd R1 9 (qO gc room vc A)) 5 (Hp.Own.blk b14 #[.int .i64 A.1] 3)) 6 (Hp.Own.blk b15 #[vc] 52) from ⟨e4, e8, hR2⟩)
        clear hW0 hbI htc hR2 e7 e4 e4' e8 e8' ff hRc e9 e5 e6
        generalize hact : Act.mk _ _ = act
        have HACT := Lib.hid hact
        refine wpIn_rangeFunc_ownH rfl (by omega) (gf := 48) (lb := #[.pointer (some ⟨wr.heap.size, 0, none⟩)]) (by rw [← hact]; rfl) trivial (enters_of Try.func48 (by kernel_rfl) rfl)
          (all_seq gx pbx room A wr.heap.size W0.heap.size 4 ⟨gy, 2, none⟩ W0 (Nat.le_refl _) lg0 hp0 (Blk.lt f8) (Blk.cell f8 0) (fO_hx HT5.out.now) (by omega)) kpt_t (kpt_b lg0) (Below.refl _ _) (fun _ => rfl)
          (fun pre W => pre <+: upA A A.2.length ∧ W0.heap.size ≤ W.heap.size ∧ ∃ v, Turns w W Hp.Own.emp (fO gx pbx gy room (stt room A acts pre.length) (stt room A acts pre.length) v (upd R2 7 (Hp.Own.blk bI #[.int .i64 pre.length] 3))))
          (fun c pre _ => c = .ret ∧ ¬ pre <+: upA A A.2.length)
          ?hI ?hIx ?h0
          (fun x a' W => ∃ Bx, Vbx W0.heap.size gy W Bx x.2.cells.toArray 51 ∧ gy < W.heap.size ∧ a' = { tmps := (((act.tmps.setIfInBounds 80 (.int .i64 x.1)).setIfInBounds 81 (.agg x.2.cells.toArray)).setIfInBounds 17 (.int .i64 x.1)).setIfInBounds 18 (.pointer (some ⟨Bx, 0, none⟩)), defers := [] })
          ?hAx ?assign ?body ?done ?stop
        case hI =>
          intro pre X Y row hs hg hr
          obtain ⟨h1, h2, v, h3⟩ := hs
          exact ⟨h1, Nat.le_trans h2 hg.size, v, turns_keep (celled_fO _ _ _ _ _ _ _ _ (celled_upd HRC.out 7 (celled_blk _ _ _))) HT5.out.chg.size h3 hg hr⟩
        case hIx => exact fun c => ownFrom_pure _ _
        case h0 => exact ⟨List.nil_prefix, Nat.le_refl _, v, HT5.out⟩
        case hAx =>
          intro x a' s X Y row hs hg hr
          obtain ⟨Bx, h1, h2, h3⟩ := hs
          exact ⟨Bx, h1.keep lg0 h2 hg hr, Nat.lt_of_lt_of_le h2 hg.size, h3⟩
        case assign =>
          rintro l pre ⟨op, ec, en, kk, nm, tx, nu, mo⟩ W K ⟨hpre, hsz, v, ht⟩ hK
          have hsub := HACT.out
          subst hsub
          have hgW : gy < W.heap.size := Nat.lt_of_lt_of_le lg0 hsz
          have HPL := Lib.hid (fun b hb => pts_lt ht.now b hb)
          have HTW := Lib.hid ht
          clear ht hact HACT
          dsimp only [encE, En.cells]
          gi_wp2_with fail
          exact hK _ _ ((KeepsOthers.alloc _ _).from _) (Kpt.of_chg ((Chg.refl _ _).alloc _) hgW) ⟨hpre, Nat.le_trans hsz (by simp), v, HTW.out.alloc _⟩
            ⟨W.heap.size, ⟨hsz, fun hp => Nat.lt_irrefl _ (HPL.out _ (pts_of_block (Below.heap_alloc _ _ _ hgW) _ hp)), Blk.new _ _ _⟩, Nat.lt_of_lt_of_le hgW (by simp), rfl⟩
        case body =>
          rintro l pre ⟨op, ec, en, ek, em, et, eu, eo⟩ a' W hl ⟨rl, hrl⟩ ⟨hpre, hsz, v, ht⟩ ⟨Bx, hvb, hgW, rfl⟩ hlt
          have hsub := HACT.out
          subst hsub
          obtain ⟨kT, kR, kX, kY, kF, k14, k15, kI, kC, kc⟩ := boxes HR0.out HR1.out HRD.out.2.2 ht.now
          obtain ⟨Ac, cc, hvc⟩ := rO_slice kc
          obtain ⟨e0, he0⟩ : ∃ e, A.2[pre.length]? = some e := ⟨A.2[pre.length]'hlt, List.getElem?_eq_getElem _⟩
          have hrow := kc.2.1
          rw [hvc] at hrow
          obtain ⟨wb, woff, hAc, hwb, hwc⟩ := EnS.of_row hrow _ _ he0
          subst hAc
          obtain ⟨xc, xn, xk, xm, xt, xu, xo⟩ := e0
          have c16 : W.cell? ⟨bI, 0, none⟩ = some (.int .i64 pre.length) := kI.cell 0
          have c15 : W.cell? ⟨b15, 0, none⟩ = some (.slice (some ⟨wb, woff, none⟩) A.2.length cc) := by rw [← hvc]; exact k15.cell 0
          have c14 : W.cell? ⟨b14, 0, none⟩ = some (.int .i64 A.1) := k14.cell 0
          have f0 : W.cell? ⟨Bx, 0, none⟩ = some (.int .i64 ec) := hvb.2.2.cell 0
          have f1 : W.cell? ⟨Bx, 1, none⟩ = some (.int .i64 en) := hvb.2.2.cell 1
          have f2 : W.cell? ⟨Bx, 2, none⟩ = some (.int .i64 ek) := hvb.2.2.cell 2
          have f3 : W.cell? ⟨Bx, 3, none⟩ = some (.string em) := hvb.2.2.cell 3
          have f4 : W.cell? ⟨Bx, 4, none⟩ = some (.string et) := hvb.2.2.cell 4
          have f5 : W.cell? ⟨Bx, 5, none⟩ = some (.int .i64 eu) := hvb.2.2.cell 5
          have f6 : W.cell? ⟨Bx, 6, none⟩ = some (.int .i64 eo) := hvb.2.2.cell 6
          have g0 : W.cell? ⟨wb, woff + pre.length * 7, none⟩ = some (.int .i64 xc) := hwc 0 _ rfl
          have g1 : W.cell? ⟨wb, woff + pre.length * 7 + 1, none⟩ = some (.int .i64 xn) := hwc 1 _ rfl
          have g2 : W.cell? ⟨wb, woff + pre.length * 7 + 2, none⟩ = some (.int .i64 xk) := hwc 2 _ rfl
          have g3 : W.cell? ⟨wb, woff + pre.length * 7 + 3, none⟩ = some (.string xm) := hwc 3 _ rfl
          have g4 : W.cell? ⟨wb, woff + pre.length * 7 + 4, none⟩ = some (.string xt) := hwc 4 _ rfl
          have g5 : W.cell? ⟨wb, woff + pre.length * 7 + 5, none⟩ = some (.int .i64 xu) := hwc 5 _ rfl
          have g6 : W.cell? ⟨wb, woff + pre.length * 7 + 6, none⟩ = some (.int .i64 xo) := hwc 6 _ rfl
          have HTW := Lib.hid ht
          have HVB := Lib.hid hvb
          have HPRE := Lib.hid hpre
          have HRL := Lib.hid hrl
          have HE0 := Lib.hid he0
          have l64 := HOK.out.m64
          have llen := HOK.out.len
          have lb0 := HOK.out.b0
          have lb1 := HOK.out.b1
          have hjd : decide ((A.2.length : Int) ≤ (pre.length : Int)) = false := by simp; omega
          have hjd' : decide (A.2.length ≤ pre.length) = false := by simp; omega
          have hj0 : (0 : Int) ≤ (pre.length : Int) := Int.natCast_nonneg _
          have hj1 : (pre.length : Int) < (A.2.length : Int) := by omega
          have hw1 : IntKind.i64.wrap (A.1 + 1) = A.1 + 1 := IntWalk.i64_in _ (by omega)
          have hw2 : IntKind.i64.wrap (A.1 + 1 + (pre.length : Int)) = A.1 + 1 + (pre.length : Int) := IntWalk.i64_in _ (by omega)
          have KT := Lib.hid (kT.cell 0)
          have KI := Lib.hid (kI.frozen 0)
          have KR := Lib.hid (kR.frozen 0)
          have KR1 := Lib.hid (kR.cell 0)
          clear ht hvb hpre hrl he0 hwc hrow kT kR kX kY kF k14 k15 kI kC kc HACT hact
          simp only [List.setIfInBounds_toArray, List.set_cons_zero, List.set_cons_succ, En.cells]
          by_cases hx : (⟨ec, en, ek, em, et, eu, eo⟩ : En) = ⟨xc, xn, xk, xm, xt, xu, xo⟩
          · by_cases hop : op = A.1 + 1 + (pre.length : Int)
            · obtain ⟨rfl, rfl, rfl, rfl, rfl, rfl, rfl⟩ := En.mk.inj hx
              subst hop
              clear hx
              gi_wp2_with fail
              refine wpIn_region_heldR (fun w' => w'.cell? ⟨bI, 0, none⟩ = some (.int .i64 pre.length) ∧ w'.cell? ⟨b15, 0, none⟩ = some (.slice (some ⟨wb, woff, none⟩) A.2.length cc) ∧ w'.cell? ⟨b14, 0, none⟩ = some (.int .i64 A.1) ∧ w'.cell? ⟨Bx, 0, none⟩ = some (.int .i64 ec) ∧ w'.cell? ⟨Bx, 1, none⟩ = some (.int .i64 en) ∧ w'.cell? ⟨Bx, 2, none⟩ = some (.int .i64 ek) ∧ w'.cell? ⟨Bx, 3, none⟩ = some (.string em) ∧ w'.cell? ⟨Bx, 4, none⟩ = some (.string et) ∧ w'.cell? ⟨Bx, 5, none⟩ = some (.int .i64 eu) ∧ w'.cell? ⟨Bx, 6, none⟩ = some (.int .i64 eo) ∧ w'.cell? ⟨wb, woff + pre.length * 7, none⟩ = some (.int .i64 ec) ∧ w'.cell? ⟨wb, woff + pre.length * 7 + 1, none⟩ = some (.int .i64 en) ∧ w'.cell? ⟨wb, woff + pre.length * 7 + 2, none⟩ = some (.int .i64 ek) ∧ w'.cell? ⟨wb, woff + pre.length * 7 + 3, none⟩ = some (.string em) ∧ w'.cell? ⟨wb, woff + pre.length * 7 + 4, none⟩ = some (.string et) ∧ w'.cell? ⟨wb, woff + pre.length * 7 + 5, none⟩ = some (.int .i64 eu) ∧ w'.cell? ⟨wb, woff + pre.length * 7 + 6, none⟩ = some (.int .i64 eo)) (by kernel_rfl) (by kernel_rfl) (by rintro ⟨_, _, h⟩; exact h) ⟨c16, c15, c14, f0, f1, f2, f3, f4, f5, f6, g0, g1, g2, g3, g4, g5, g6⟩ (fun hHeld => ?_)
              (refine takeL 0 (v := ?_) rfl (by kernel_rfl) (by kernel_rfl) (by kernel_rfl) (fun _ _ _ h => h) (Or.inl ⟨by rfl, ?_⟩) (by assumption) ?_; rotate_left; (focus (intro w9 hSw; (try dsimp only at hSw); go_simp; try with_reducible rfl)); (try simp only [Act.put, List.setIfInBounds_toArray, List.set_cons_zero, List.set_cons_succ]))
              (refine takeL 1 (v := ?_) rfl (by kernel_rfl) (by kernel_rfl) (by kernel_rfl) (fun _ _ _ h => h) (Or.inl ⟨by rfl, ?_⟩) (by assumption) ?_; rotate_left; (focus (intro w9 hSw; (try dsimp only at hSw); go_simp; try with_reducible rfl)); (try simp only [Act.put, List.setIfInBounds_toArray, List.set_cons_zero, List.set_cons_succ]))
              (refine takeL 2 (v := ?_) rfl (by kernel_rfl) (by kernel_rfl) (by kernel_rfl) (fun _ _ _ h => h) (Or.inl ⟨by rfl, ?_⟩) (by assumption) ?_; rotate_left; (focus (intro w9 hSw; (try dsimp only at hSw); go_simp; try with_reducible rfl)); (try simp only [Act.put, List.setIfInBounds_toArray, List.set_cons_zero, List.set_cons_succ]))
              (refine takeL 3 (v := ?_) rfl (by kernel_rfl) (by kernel_rfl) (by kernel_rfl) (fun _ _ _ h => h) (Or.inl ⟨by rfl, ?_⟩) (by assumption) ?_; rotate_left; (focus (intro w9 hSw; (try dsimp only at hSw); go_simp; try with_reducible rfl)); (try simp only [Act.put, List.setIfInBounds_toArray, List.set_cons_zero, List.set_cons_succ]))
              (refine takeL 4 (v := ?_) rfl (by kernel_rfl) (by kernel_rfl) (by kernel_rfl) (fun _ _ _ h => h) (Or.inl ⟨by rfl, ?_⟩) (by assumption) ?_; rotate_left; (focus (intro w9 hSw; (try dsimp only at hSw); go_simp; try with_reducible rfl)); (try simp only [Act.put, List.setIfInBounds_toArray, List.set_cons_zero, List.set_cons_succ]))
              (refine takeL 5 (v := ?_) rfl (by kernel_rfl) (by kernel_rfl) (by kernel_rfl) (fun _ _ _ h => h) (Or.inl ⟨by rfl, ?_⟩) (by assumption) ?_; rotate_left; (focus (intro w9 hSw; (try dsimp only at hSw); go_simp; try with_reducible rfl)); (try simp only [Act.put, List.setIfInBounds_toArray, List.set_cons_zero, List.set_cons_succ]))
              (refine takeL 6 (v := ?_) rfl (by kernel_rfl) (by kernel_rfl) (by kernel_rfl) (fun _ _ _ h => h) (Or.inl ⟨by rfl, ?_⟩) (by assumption) ?_; rotate_left; (focus (intro w9 hSw; (try dsimp only at hSw); go_simp; try with_reducible rfl)); (try simp only [Act.put, List.setIfInBounds_toArray, List.set_cons_zero, List.set_cons_succ]))
              (refine takeL 7 (v := ?_) rfl (by kernel_rfl) (by kernel_rfl) (by kernel_rfl) (fun _ _ _ h => h) (Or.inl ⟨by rfl, ?_⟩) (by assumption) ?_; rotate_left; (focus (intro w9 hSw; (try dsimp only at hSw); go_simp; try with_reducible rfl)); (try simp only [Act.put, List.setIfInBounds_toArray, List.set_cons_zero, List.set_cons_succ]))
              (refine takeL 8 (v := ?_) rfl (by kernel_rfl) (by kernel_rfl) (by kernel_rfl) (fun _ _ _ h => h) (Or.inl ⟨by rfl, ?_⟩) (by assumption) ?_; rotate_left; (focus (intro w9 hSw; (try dsimp only at hSw); go_simp; try with_reducible rfl)); (try simp only [Act.put, List.setIfInBounds_toArray, List.set_cons_zero, List.set_cons_succ]))
              (refine takeL 9 (v := ?_) rfl (by kernel_rfl) (by kernel_rfl) (by kernel_rfl) (fun _ _ _ h => h) (Or.inl ⟨by rfl, ?_⟩) (by assumption) ?_; rotate_left; (focus (intro w9 hSw; (try dsimp only at hSw); go_simp; try with_reducible rfl)); (try simp only [Act.put, List.setIfInBounds_toArray, List.set_cons_zero, List.set_cons_succ]))
              (refine takeL 10 (v := ?_) rfl (by kernel_rfl) (by kernel_rfl) (by kernel_rfl) (fun _ _ _ h => h) (Or.inl ⟨by rfl, ?_⟩) (by assumption) ?_; rotate_left; (focus (intro w9 hSw; (try dsimp only at hSw); go_simp; try with_reducible rfl)); (try simp only [Act.put, List.setIfInBounds_toArray, List.set_cons_zero, List.set_cons_succ]))
              (refine takeL 11 (v := ?_) rfl (by kernel_rfl) (by kernel_rfl) (by kernel_rfl) (fun _ _ _ h => h) (Or.inl ⟨by rfl, ?_⟩) (by assumption) ?_; rotate_left; (focus (intro w9 hSw; (try dsimp only at hSw); go_simp; try with_reducible rfl)); (try simp only [Act.put, List.setIfInBounds_toArray, List.set_cons_zero, List.set_cons_succ]))
              (refine takeL 12 (v := ?_) rfl (by kernel_rfl) (by kernel_rfl) (by kernel_rfl) (fun _ _ _ h => h) (Or.inl ⟨by rfl, ?_⟩) (by assumption) ?_; rotate_left; (focus (intro w9 hSw; (try dsimp only at hSw); go_simp; try with_reducible rfl)); (try simp only [Act.put, List.setIfInBounds_toArray, List.set_cons_zero, List.set_cons_succ]))
              (refine takeL 13 (v := ?_) rfl (by kernel_rfl) (by kernel_rfl) (by kernel_rfl) (fun _ _ _ h => h) (Or.inl ⟨by rfl, ?_⟩) (by assumption) ?_; rotate_left; (focus (intro w9 hSw; (try dsimp only at hSw); go_simp; try with_reducible rfl)); (try simp only [Act.put, List.setIfInBounds_toArray, List.set_cons_zero, List.set_cons_succ]))
              (refine takeL 14 (v := ?_) rfl (by kernel_rfl) (by kernel_rfl) (by kernel_rfl) (fun _ _ _ h => h) (Or.inl ⟨by rfl, ?_⟩) (by assumption) ?_; rotate_left; (focus (intro w9 hSw; (try dsimp only at hSw); go_simp; try with_reducible rfl)); (try simp only [Act.put, List.setIfInBounds_toArray, List.set_cons_zero, List.set_cons_succ]))
              (refine takeL 15 (v := ?_) rfl (by kernel_rfl) (by kernel_rfl) (by kernel_rfl) (fun _ _ _ h => h) (Or.inl ⟨by rfl, ?_⟩) (by assumption) ?_; rotate_left; (focus (intro w9 hSw; (try dsimp only at hSw); go_simp; try with_reducible rfl)); (try simp only [Act.put, List.setIfInBounds_toArray, List.set_cons_zero, List.set_cons_succ]))
              (refine takeL 16 (v := ?_) rfl (by kernel_rfl) (by kernel_rfl) (by kernel_rfl) (fun _ _ _ h => h) (Or.inl ⟨by rfl, ?_⟩) (by assumption) ?_; rotate_left; (focus (intro w9 hSw; (try dsimp only at hSw); go_simp; try with_reducible rfl)); (try simp only [Act.put, List.setIfInBounds_toArray, List.set_cons_zero, List.set_cons_succ]))
              (refine takeL 17 (v := ?_) rfl (by kernel_rfl) (by kernel_rfl) (by kernel_rfl) (fun _ _ _ h => h) (Or.inl ⟨by rfl, ?_⟩) (by assumption) ?_; rotate_left; (focus (intro w9 hSw; (try dsimp only at hSw); go_simp; try with_reducible rfl)); (try simp only [Act.put, List.setIfInBounds_toArray, List.set_cons_zero, List.set_cons_succ]))
              (refine takeL 18 (v := ?_) rfl (by kernel_rfl) (by kernel_rfl) (by kernel_rfl) (fun _ _ _ h => h) (Or.inl ⟨by rfl, ?_⟩) (by assumption) ?_; rotate_left; (focus (intro w9 hSw; (try dsimp only at hSw); go_simp; try with_reducible rfl)); (try simp only [Act.put, List.setIfInBounds_toArray, List.set_cons_zero, List.set_cons_succ]))
              (refine takeL 19 (v := ?_) rfl (by kernel_rfl) (by kernel_rfl) (by kernel_rfl) (fun _ _ _ h => h) (Or.inl ⟨by rfl, ?_⟩) (by assumption) ?_; rotate_left; (focus (intro w9 hSw; (try dsimp only at hSw); go_simp; try with_reducible rfl)); (try simp only [Act.put, List.setIfInBounds_toArray, List.set_cons_zero, List.set_cons_succ]))
              refine wpAnyH_done (by kernel_rfl) ?_ _
              by_cases hja : pre.length < acts.length
              · have hda : decide ((pre.length : Int) < (n2 : Int)) = true := by have := HN2.out; simp; omega
                have hda' : decide (pre.length < n2) = true := by have := HN2.out; simp; omega
                obtain ⟨ba, oa, hA2, hba, ds, hdl, hR, dc0⟩ := HAC.out.at_ hja
                subst hA2
                obtain ⟨va, hds, hva⟩ := hR
                obtain ⟨A3, c3, hv3, hsl3, hl3⟩ := SlR.form hva
                obtain rfl : va = .slice A3 acts[pre.length].l.length c3 := by simpa using hv3
                have HSL := Lib.hid hsl3
                have HLL : Hid (acts[pre.length].l.length ≤ 1152921504606846976) := Lib.hid (by omega)
                have HGET := Lib.hid (List.getElem?_eq_getElem hja)
                generalize acts[pre.length] = act0 at *
                obtain ⟨kd, lg, aop, mo, ⟨yc, yn, yk, ym, yt, yu, yo⟩, al⟩ := act0
                have dc : ∀ j u, ds[j]? = some u → W.cell? ⟨ba, oa + pre.length * 12 + j, none⟩ = some u := fun j u hu => (HTW.out.chg.cell (p := ⟨ba, oa + pre.length * 12 + j, none⟩) hba (fun h => h)).trans (dc0 j u hu)
                subst hds
                have a0 : W.drew.cell? ⟨ba, oa + pre.length * 12, none⟩ = some (.int .i64 kd) := dc 0 _ rfl
                have a1 : W.drew.cell? ⟨ba, oa + pre.length * 12 + 1, none⟩ = some (.int .i64 lg) := dc 1 _ rfl
                have a2 : W.drew.cell? ⟨ba, oa + pre.length * 12 + 2, none⟩ = some (.int .i64 aop) := dc 2 _ rfl
                have a3 : W.drew.cell? ⟨ba, oa + pre.length * 12 + 3, none⟩ = some (.int .i64 mo) := dc 3 _ rfl
                have a4 : W.drew.cell? ⟨ba, oa + pre.length * 12 + 4, none⟩ = some (.int .i64 yc) := dc 4 _ rfl
                have a5 : W.drew.cell? ⟨ba, oa + pre.length * 12 + 5, none⟩ = some (.int .i64 yn) := dc 5 _ rfl
                have a6 : W.drew.cell? ⟨ba, oa + pre.length * 12 + 6, none⟩ = some (.int .i64 yk) := dc 6 _ rfl
                have a7 : W.drew.cell? ⟨ba, oa + pre.length * 12 + 7, none⟩ = some (.string ym) := dc 7 _ rfl
                have a8 : W.drew.cell? ⟨ba, oa + pre.length * 12 + 8, none⟩ = some (.string yt) := dc 8 _ rfl
                have a9 : W.drew.cell? ⟨ba, oa + pre.length * 12 + 9, none⟩ = some (.int .i64 yu) := dc 9 _ rfl
                have a10 : W.drew.cell? ⟨ba, oa + pre.length * 12 + 10, none⟩ = some (.int .i64 yo) := dc 10 _ rfl
                have a11 : W.drew.cell? ⟨ba, oa + pre.length * 12 + 11, none⟩ = some (.slice A3 al.length c3) := dc 11 _ rfl
                have q5 : W.drew.cell? ⟨w.heap.size, 0, none⟩ = some (.slice (some ⟨ba, oa, none⟩) n2 c2) := KT.out
                have q16 : W.drew.cell? ⟨bI, 0, none⟩ = some (.int .i64 pre.length) := c16
                have HTD := Lib.hid (HTW.out.drew)
                have hj2 : (pre.length : Int) < (n2 : Int) := by have := HN2.out; omega
                clear dc dc0 hdl hva hv3 hsl3 c16 c15 c14 f0 f1 f2 f3 f4 f5 f6 g0 g1 g2 g3 g4 g5 g6 hHeld hw1 hw2 hjd hjd'
                generalize hWd : W.drew = Wd at *
                have hbd := am_bd kd 3 (by omega)
                have hkk : am kd 3 = 0 ∨ am kd 3 = 1 ∨ am kd 3 = 2 := by omega
                have HAM : Hid (∀ W, Calls Try.prog 32 #[.int .i64 kd, .int .i64 3] W fun e w' => e = .returned (.int .i64 (am kd 3)) ∧ w' = W) := fun W => among_any kd 3 W (by omega) (by omega)
                clear hbd
                have hszd : Wd.heap.size = W.heap.size := by rw [← hWd]; rfl
                have hzW : w2.heap.size < W.heap.size ∧ w1.heap.size < W.heap.size := ⟨Blk.lt (boxes HR0.out HR1.out HRD.out.2.2 HTW.out.now).2.2.2.1, Blk.lt (boxes HR0.out HR1.out HRD.out.2.2 HTW.out.now).2.2.1⟩
                rcases hkk with hkk | hkk | hkk
                · rw [hkk] at HAM
                  gi_wp2_with (refine ⟨trivial, ?_⟩; gi_at_call 32; refine (CallsIn.inRound l (callsIn_wide.2 (HAM.out _))).mono ?_; rintro r w6 ⟨rfl, rfl⟩)
                  have hSo : (stt room A acts pre.length).Ok room := stt_ok HOK.out acts _
                  have HT6 : Hid (Turns W (Wd.alloc (.cells #[.int .i64 kd, .int .i64 lg, .int .i64 aop, .int .i64 mo, .int .i64 yc, .int .i64 yn, .int .i64 yk, .string ym, .string yt, .int .i64 yu, .int .i64 yo, .slice A3 al.length c3] 54)) (fO gx pbx gy room (stt room A acts pre.length) (stt room A acts pre.length) v (upd R2 7 (Hp.Own.blk bI #[.int .i64 pre.length] 3))) (fO gx pbx gy room (stt room A acts pre.length) (stt room A acts pre.length) v (upd R2 7 (Hp.Own.blk bI #[.int .i64 pre.length] 3)))) := by rw [← hWd]; exact ((Turns.refl HTW.out.now).drew).alloc _
                  have HB6 : Hid (Bes Wd.heap.size #[.int .i64 kd, .int .i64 lg, .int .i64 aop, .int .i64 mo, .int .i64 yc, .int .i64 yn, .int .i64 yk, .string ym, .string yt, .int .i64 yu, .int .i64 yo, .slice A3 al.length c3] 54 (Wd.alloc (.cells #[.int .i64 kd, .int .i64 lg, .int .i64 aop, .int .i64 mo, .int .i64 yc, .int .i64 yn, .int .i64 yk, .string ym, .string yt, .int .i64 yu, .int .i64 yo, .slice A3 al.length c3] 54)) (fO gx pbx gy room (stt room A acts pre.length) (stt room A acts pre.length) v (upd R2 7 (Hp.Own.blk bI #[.int .i64 pre.length] 3)))) := Bes.new HTD.out.now _ _
                  obtain ⟨W5, hW5⟩ : ∃ W5, W5 = Wd.alloc (.cells #[.int .i64 kd, .int .i64 lg, .int .i64 aop, .int .i64 mo, .int .i64 yc, .int .i64 yn, .int .i64 yk, .string ym, .string yt, .int .i64 yu, .int .i64 yo, .slice A3 al.length c3] 54) := ⟨_, rfl⟩
                  rw [← hW5] at HT6 HB6 ⊢
                  clear hW5 a0 a1 a2 a3 a4 a5 a6 a7 a8 a9 a10 a11 q5 q16
                  obtain ⟨zb, hzb⟩ : ∃ zb, zb = W.heap.size := ⟨_, rfl⟩
                  rw [hszd, ← hzb] at HB6
                  rw [← hzb]
                  have HZB := Lib.hid hzb
                  have HSZ := Lib.hid hszd
                  clear hzb hszd
                  apply cut_in (R := fun w' => ∃ v', Turns W w' (fO gx pbx gy room (stt room A acts pre.length) (stt room A acts pre.length) v (upd R2 7 (Hp.Own.blk bI #[.int .i64 pre.length] 3))) (fO gx pbx gy room ((aAdd room (stt room A acts pre.length) ⟨yc, yn, yk, ym, yt, yu, yo⟩).2) ((aAdd room (stt room A acts pre.length) ⟨yc, yn, yk, ym, yt, yu, yo⟩).2) v' (upd R2 7 (Hp.Own.blk bI #[.int .i64 pre.length] 3))))
                  case h =>
                    refine wpIn_region_heldR (fun w' => w'.cell? ⟨w1.heap.size, 0, none⟩ = some (.pointer (some ⟨gx, 0, none⟩)) ∧ w'.cell? ⟨w2.heap.size, 0, none⟩ = some (.pointer (some ⟨gy, 0, none⟩)) ∧ w'.cell? ⟨zb, 4, none⟩ = some (.int .i64 yc) ∧ w'.cell? ⟨zb, 4 + 1, none⟩ = some (.int .i64 yn) ∧ w'.cell? ⟨zb, 4 + 2, none⟩ = some (.int .i64 yk) ∧ w'.cell? ⟨zb, 4 + 3, none⟩ = some (.string ym) ∧ w'.cell? ⟨zb, 4 + 4, none⟩ = some (.string yt) ∧ w'.cell? ⟨zb, 4 + 5, none⟩ = some (.int .i64 yu) ∧ w'.cell? ⟨zb, 4 + 6, none⟩ = some (.int .i64 yo)) (by kernel_rfl) (by kernel_rfl) (by rintro ⟨_, _, h, _⟩; cases h) ⟨(boxes HR0.out HR1.out HRD.out.2.2 HT6.out.now).2.2.1.cell 0, (boxes HR0.out HR1.out HRD.out.2.2 HT6.out.now).2.2.2.1.cell 0, HB6.out.blk.cell 4, HB6.out.blk.cell 5, HB6.out.blk.cell 6, HB6.out.blk.cell 7, HB6.out.blk.cell 8, HB6.out.blk.cell 9, HB6.out.blk.cell 10⟩ (fun hHeld => ?_)
                    (refine takeL 0 (v := ?_) rfl (by kernel_rfl) (by kernel_rfl) (by kernel_rfl) (fun _ _ _ h => nomatch h.1) (Or.inl ⟨by rfl, ?_⟩) (by assumption) ?_; rotate_left; (focus (intro w9 hSw; (try dsimp only at hSw); go_simp; try with_reducible rfl)); (try simp only [Act.put, List.setIfInBounds_toArray, List.set_cons_zero, List.set_cons_succ]))
                    (refine takeL 1 (v := ?_) rfl (by kernel_rfl) (by kernel_rfl) (by kernel_rfl) (fun _ _ _ h => nomatch h.1) (Or.inl ⟨by rfl, ?_⟩) (by assumption) ?_; rotate_left; (focus (intro w9 hSw; (try dsimp only at hSw); go_simp; try with_reducible rfl)); (try simp only [Act.put, List.setIfInBounds_toArray, List.set_cons_zero, List.set_cons_succ]))
                    (refine takeL 2 (v := ?_) rfl (by kernel_rfl) (by kernel_rfl) (by kernel_rfl) (fun _ _ _ h => nomatch h.1) (Or.inl ⟨by rfl, ?_⟩) (by assumption) ?_; rotate_left; (focus (intro w9 hSw; (try dsimp only at hSw); go_simp; try with_reducible rfl)); (try simp only [Act.put, List.setIfInBounds_toArray, List.set_cons_zero, List.set_cons_succ]))
                    (refine takeL 4 (v := ?_) rfl (by kernel_rfl) (by kernel_rfl) (by kernel_rfl) (fun _ _ _ h => nomatch h.1) (Or.inl ⟨by rfl, ?_⟩) (by assumption) ?_; rotate_left; (focus (intro w9 hSw; (try dsimp only at hSw); go_simp; try with_reducible rfl)); (try simp only [Act.put, List.setIfInBounds_toArray, List.set_cons_zero, List.set_cons_succ]))
                    (refine takeL 5 (v := ?_) rfl (by kernel_rfl) (by kernel_rfl) (by kernel_rfl) (fun _ _ _ h => nomatch h.1) (Or.inl ⟨by rfl, ?_⟩) (by assumption) ?_; rotate_left; (focus (intro w9 hSw; (try dsimp only at hSw); go_simp; try with_reducible rfl)); (try simp only [Act.put, List.setIfInBounds_toArray, List.set_cons_zero, List.set_cons_succ]))
                    (refine takeL 6 (v := ?_) rfl (by kernel_rfl) (by kernel_rfl) (by kernel_rfl) (fun _ _ _ h => nomatch h.1) (Or.inl ⟨by rfl, ?_⟩) (by assumption) ?_; rotate_left; (focus (intro w9 hSw; (try dsimp only at hSw); go_simp; try with_reducible rfl)); (try simp only [Act.put, List.setIfInBounds_toArray, List.set_cons_zero, List.set_cons_succ]))
                    refine wpAnyH_ready (rs := [3]) (by kernel_rfl) (by simp) ?_
                    refine consL 3 rfl (fun K hK => ?_) AllReadyH.nil
                    · go_simp
                      refine (fAdd (Ay := stt room A acts pre.length) (v := v) (R := upd R2 7 (Hp.Own.blk bI #[.int .i64 pre.length] 3)) (gy := gy) (pbx := pbx) (m := room) (stt room A acts pre.length) ⟨yc, yn, yk, ym, yt, yu, yo⟩ _ (by exact HT6.out.drew.now)).mono ?_
                      rintro r wA ⟨rfl, tA⟩
                      have tA2 := HT6.out.trans tA.drewl
                      have bA := HB6.out.step tA.drewl
                      refine hK.out _ _ ⟨(boxes HR0.out HR1.out HRD.out.2.2 tA2.now).2.2.1.cell 0, (boxes HR0.out HR1.out HRD.out.2.2 tA2.now).2.2.2.1.cell 0, bA.blk.cell 4, bA.blk.cell 5, bA.blk.cell 6, bA.blk.cell 7, bA.blk.cell 8, bA.blk.cell 9, bA.blk.cell 10⟩ (fun hHeld => ?_)
                      clear hK K
                      (try simp only [Act.put, List.setIfInBounds_toArray, List.set_cons_zero, List.set_cons_succ])
                      refine wpAnyH_ready (rs := [7]) (by kernel_rfl) (by simp) ?_
                      refine consL 7 rfl (fun K hK => ?_) AllReadyH.nil
                      go_simp
                      refine (gAdd (Ax := (aAdd room (stt room A acts pre.length) ⟨yc, yn, yk, ym, yt, yu, yo⟩).2) (v := v) (R := upd R2 7 (Hp.Own.blk bI #[.int .i64 pre.length] 3)) (gx := gx) (pbx := pbx) (m := room) (stt room A acts pre.length) hSo ⟨yc, yn, yk, ym, yt, yu, yo⟩ _ (by exact tA2.now)).mono ?_
                      rintro r wB ⟨rfl, v2, tB⟩
                      have tB2 := tA2.trans tB
                      have bB := bA.step tB
                      refine hK.out _ _ ⟨(boxes HR0.out HR1.out HRD.out.2.2 tB2.now).2.2.1.cell 0, (boxes HR0.out HR1.out HRD.out.2.2 tB2.now).2.2.2.1.cell 0, bB.blk.cell 4, bB.blk.cell 5, bB.blk.cell 6, bB.blk.cell 7, bB.blk.cell 8, bB.blk.cell 9, bB.blk.cell 10⟩ (fun hHeld => ?_)
                      clear hK K
                      (try simp only [Act.put, List.setIfInBounds_toArray, List.set_cons_zero, List.set_cons_succ])
                      (refine takeL 8 (v := ?_) rfl (by kernel_rfl) (by kernel_rfl) (by kernel_rfl) (fun _ _ _ h => nomatch h.1) (Or.inl ⟨by rfl, ?_⟩) (by assumption) ?_; rotate_left; (focus (intro w9 hSw; (try dsimp only at hSw); go_simp; try with_reducible rfl)); (try simp only [Act.put, List.setIfInBounds_toArray, List.set_cons_zero, List.set_cons_succ]))
                      refine wpAnyH_done (by kernel_rfl) ?_ _
                      exact ⟨rfl, rfl, v2, tB2⟩
                  case k =>
                    rintro w7 ⟨v2, tR⟩
                    have hst : (aAdd room (stt room A acts pre.length) ⟨yc, yn, yk, ym, yt, yu, yo⟩).2 = stt room A acts (pre.length + 1) := by
                      rw [stt_next HGET.out]
                      unfold aStep
                      rw [if_pos hkk]
                    rw [hst] at tR
                    clear hst
                    have hok2 : (stt room A acts (pre.length + 1)).Ok room := stt_ok HOK.out acts _
                    obtain ⟨Sn, hSn⟩ : ∃ S, S = stt room A acts (pre.length + 1) := ⟨_, rfl⟩
                    rw [← hSn] at tR hok2
                    have HSN := Lib.hid hSn
                    clear hSn
                    obtain ⟨-, -, -, -, kF7, -, -, -, kC7, -⟩ := boxes HR0.out HR1.out HRD.out.2.2 tR.now
                    have HK7 := Lib.hid (round_kept HT5.out.now HRC.out HTW.out.now tR)
                    have z13 : (w7.alloc (.cells #[.int .i64 0] 3)).cell? ⟨wr.heap.size + 1, 0, none⟩ = some (.func (.func 48) #[] #[.pointer (some ⟨wr.heap.size, 0, none⟩)]) := (kF7.alloc _).cell 0
                    have HC7 := Lib.hid (kC7.alloc (.cells #[.int .i64 0] 3))
                    have HT8 := Lib.hid (tR.pushT (Turns.blk_new w7 #[.int .i64 0] 3))
                    have hl8 : (w7.alloc (.cells #[.int .i64 0] 3)).heap[l]? = some (.loop rl) := by
                      have h7 := HK7.out.1.same l _ hl HRL.out rfl
                      exact (Below.heap_alloc _ _ _ (Array.getElem?_eq_some_iff.1 h7).1).trans h7
                    have hs8 : W.heap.size ≤ w7.heap.size := tR.chg.size
                    clear tR kF7 kC7
                    gi_wp2_with fail
                    obtain ⟨W8, hW8⟩ : ∃ W8, W8 = w7.alloc (.cells #[.int .i64 0] 3) := ⟨_, rfl⟩
                    rw [← hW8] at hl8 HT8 HC7 z13 ⊢
                    have hs9 : w7.heap.size < W8.heap.size := by rw [hW8]; simp
                    have HKA : Hid (Chg (fun _ => False) w7 W8) := by rw [hW8]; exact (Chg.refl _ _).alloc _
                    have lg8 : gy < W8.heap.size := Blk.lt (fO_hy HT8.out.now.2.1).1
                    have hp8 : ∀ b, pts W8 ⟨gy, 2, none⟩ b → b < W8.heap.size := fun b hb => pts_lt HT8.out.now.2.1 b hb
                    clear hW8
                    generalize hbK : w7.heap.size = bK at *
                    generalize hact2 : Act.mk _ _ = act2
                    have HACT2 := Lib.hid hact2
                    have hcf : ∀ k : Int, Celled (Hp.Own.both (Hp.Own.blk bK #[.int .i64 k] 3) (fO gx pbx gy room Sn Sn v2 (upd R2 7 (Hp.Own.blk bI #[.int .i64 pre.length] 3)))) := fun k => celled_both (celled_blk _ _ _) (celled_fO _ _ _ _ _ _ _ _ (celled_upd HRC.out 7 (celled_blk _ _ _)))
                    refine wpIn_rangeFunc_ownN (l₀ := l) (r₀ := rl) rfl hl8 (by omega) (gf := 48) (lb := #[.pointer (some ⟨wr.heap.size, 0, none⟩)]) (by rw [← hact2]; rfl) trivial (enters_of Try.func48 (by kernel_rfl) rfl)
                      ((all_seq gx pbx room Sn wr.heap.size W8.heap.size (5 - 1 - 1 - 1) ⟨gy, 2, none⟩ W8 (Nat.le_refl _) lg8 hp8 (Blk.lt HC7.out) (Blk.cell HC7.out 0) (fO_hx HT8.out.now.2.1) (by omega)).inRound l) kpt_t (kpt_b lg8) (Below.refl _ _) (fun _ => rfl)
                      (fun pre2 W' => pre2 <+: upA Sn Sn.2.length ∧ W8.heap.size ≤ W'.heap.size ∧ Turns W W' (fO gx pbx gy room (stt room A acts pre.length) (stt room A acts pre.length) v (upd R2 7 (Hp.Own.blk bI #[.int .i64 pre.length] 3))) (Hp.Own.both (Hp.Own.blk bK #[.int .i64 pre2.length] 3) (fO gx pbx gy room Sn Sn v2 (upd R2 7 (Hp.Own.blk bI #[.int .i64 pre.length] 3)))))
                      (fun c pre2 _ => c = .ret ∧ ¬ pre2 <+: upA Sn Sn.2.length)
                      ?hI2 ?hIx2 ?h02
                      (fun x a' W' => ∃ Bx2, Vbx W8.heap.size gy W' Bx2 x.2.cells.toArray 51 ∧ gy < W'.heap.size ∧ a' = { tmps := (((act2.tmps.setIfInBounds 151 (.int .i64 x.1)).setIfInBounds 152 (.agg x.2.cells.toArray)).setIfInBounds 21 (.int .i64 x.1)).setIfInBounds 22 (.pointer (some ⟨Bx2, 0, none⟩)), defers := [] })
                      ?hAx2 ?assign2 ?body2 ?done2 ?stop2
                    case hI2 =>
                      intro pre2 X Y row hs hg hr
                      obtain ⟨h1, h2, h3⟩ := hs
                      exact ⟨h1, Nat.le_trans h2 hg.size, turns_keep2 (hcf _) (by omega) h3 hg hr⟩
                    case hIx2 => exact fun c => ownFrom_pure _ _
                    case h02 => exact ⟨List.nil_prefix, Nat.le_refl _, HT8.out⟩
                    case hAx2 =>
                      intro x a' s X Y row hs hg hr
                      obtain ⟨Bx2, h1, h2, h3⟩ := hs
                      exact ⟨Bx2, h1.keep lg8 h2 hg hr, Nat.lt_of_lt_of_le h2 hg.size, h3⟩
                    case assign2 =>
                      rintro l2 pre2 ⟨op2, ec2, en2, ek2, em2, et2, eu2, eo2⟩ W' K ⟨hpre2, hsz2, ht2⟩ hK
                      have hsub := HACT2.out
                      subst hsub
                      have hgW2 : gy < W'.heap.size := Nat.lt_of_lt_of_le lg8 hsz2
                      have HPL := Lib.hid (fun b hb => pts_lt ht2.now.2.1 b hb)
                      have HTW2 := Lib.hid ht2
                      clear ht2 hact2 HACT2
                      dsimp only [encE, En.cells]
                      gi_wp2_with fail
                      exact hK _ _ ((KeepsOthers.alloc _ _).from _) (Kpt.of_chg ((Chg.refl _ _).alloc _) hgW2) ⟨hpre2, Nat.le_trans hsz2 (by simp), HTW2.out.alloc _⟩
                        ⟨W'.heap.size, ⟨hsz2, fun hp => Nat.lt_irrefl _ (HPL.out _ (pts_of_block (Below.heap_alloc _ _ _ hgW2) _ hp)), Blk.new _ _ _⟩, Nat.lt_of_lt_of_le hgW2 (by simp), rfl⟩
                    case body2 =>
                      rintro l2 pre2 ⟨op2, ec2, en2, ek2, em2, et2, eu2, eo2⟩ a2 W' hl2 ⟨rl2, hrl2⟩ ⟨hpre2, hsz2, ht2⟩ ⟨Bx2, hvb2, hgW2, rfl⟩ hlt2
                      have hsub := HACT2.out
                      subst hsub
                      obtain ⟨-, kR2, -, kY2, -, -, -, -, -, -⟩ := boxes HR0.out HR1.out HRD.out.2.2 ht2.now.2.1
                      obtain ⟨Av, cv, hv2⟩ := rO_slice (fO_hy ht2.now.2.1)
                      obtain ⟨e0, he0⟩ : ∃ e, Sn.2[pre2.length]? = some e := ⟨Sn.2[pre2.length]'hlt2, List.getElem?_eq_getElem _⟩
                      have hrow := (fO_hy ht2.now.2.1).2.1
                      rw [hv2] at hrow
                      obtain ⟨vb, voff, hAc, hwb, hwc⟩ := EnS.of_row hrow _ _ he0
                      subst hAc
                      obtain ⟨xc2, xn2, xk2, xm2, xt2, xu2, xo2⟩ := e0
                      have s0 : W'.cell? ⟨bK, 0, none⟩ = some (.int .i64 pre2.length) := Blk.cell ht2.now.1 0
                      have s1 : W'.cell? ⟨w2.heap.size, 0, none⟩ = some (.pointer (some ⟨gy, 0, none⟩)) := kY2.cell 0
                      have s2 : W'.cell? ⟨gy, 2, none⟩ = some (.slice (some ⟨vb, voff, none⟩) Sn.2.length cv) := by rw [← hv2]; exact (rO_cells (fO_hy ht2.now.2.1)).2.2
                      have s3 : W'.cell? ⟨gy, 1, none⟩ = some (.int .i64 Sn.1) := (rO_cells (fO_hy ht2.now.2.1)).2.1
                      have f0 : W'.cell? ⟨Bx2, 0, none⟩ = some (.int .i64 ec2) := hvb2.2.2.cell 0
                      have f1 : W'.cell? ⟨Bx2, 1, none⟩ = some (.int .i64 en2) := hvb2.2.2.cell 1
                      have f2 : W'.cell? ⟨Bx2, 2, none⟩ = some (.int .i64 ek2) := hvb2.2.2.cell 2
                      have f3 : W'.cell? ⟨Bx2, 3, none⟩ = some (.string em2) := hvb2.2.2.cell 3
                      have f4 : W'.cell? ⟨Bx2, 4, none⟩ = some (.string et2) := hvb2.2.2.cell 4
                      have f5 : W'.cell? ⟨Bx2, 5, none⟩ = some (.int .i64 eu2) := hvb2.2.2.cell 5
                      have f6 : W'.cell? ⟨Bx2, 6, none⟩ = some (.int .i64 eo2) := hvb2.2.2.cell 6
                      have g0 : W'.cell? ⟨vb, voff + pre2.length * 7, none⟩ = some (.int .i64 xc2) := hwc 0 _ rfl
                      have g1 : W'.cell? ⟨vb, voff + pre2.length * 7 + 1, none⟩ = some (.int .i64 xn2) := hwc 1 _ rfl
                      have g2 : W'.cell? ⟨vb, voff + pre2.length * 7 + 2, none⟩ = some (.int .i64 xk2) := hwc 2 _ rfl
                      have g3 : W'.cell? ⟨vb, voff + pre2.length * 7 + 3, none⟩ = some (.string xm2) := hwc 3 _ rfl
                      have g4 : W'.cell? ⟨vb, voff + pre2.length * 7 + 4, none⟩ = some (.string xt2) := hwc 4 _ rfl
                      have g5 : W'.cell? ⟨vb, voff + pre2.length * 7 + 5, none⟩ = some (.int .i64 xu2) := hwc 5 _ rfl
                      have g6 : W'.cell? ⟨vb, voff + pre2.length * 7 + 6, none⟩ = some (.int .i64 xo2) := hwc 6 _ rfl
                      have KR2 := Lib.hid (kR2.frozen 0)
                      have KR3 := Lib.hid (kR2.cell 0)
                      have KKf : Hid (W'.frozen? ⟨bK, 0, none⟩ = false) := Blk.frozen ht2.now.1 0
                      have HTF := Lib.hid ht2
                      have HPRE2 := Lib.hid hpre2
                      have HE2 := Lib.hid he0
                      have l64 := hok2.m64
                      have llen := hok2.len
                      have lb0 := hok2.b0
                      have lb1 := hok2.b1
                      have hjd : decide ((Sn.2.length : Int) ≤ (pre2.length : Int)) = false := by simp; omega
                      have hjd' : decide (Sn.2.length ≤ pre2.length) = false := by simp; omega
                      have hj0 : (0 : Int) ≤ (pre2.length : Int) := Int.natCast_nonneg _
                      have hj1 : (pre2.length : Int) < (Sn.2.length : Int) := by omega
                      have hw1 : IntKind.i64.wrap (Sn.1 + 1) = Sn.1 + 1 := IntWalk.i64_in _ (by omega)
                      have hw2 : IntKind.i64.wrap (Sn.1 + 1 + (pre2.length : Int)) = Sn.1 + 1 + (pre2.length : Int) := IntWalk.i64_in _ (by omega)
                      have hw3 : IntKind.i64.wrap ((pre2.length : Int) + 1) = (pre2.length : Int) + 1 := IntWalk.i64_in _ (by omega)
                      clear ht2 hvb2 hpre2 hrl2 he0 hwc hrow kR2 kY2 hv2 HACT2 hact2
                      simp only [List.setIfInBounds_toArray, List.set_cons_zero, List.set_cons_succ, En.cells]
                      by_cases hx2 : (⟨ec2, en2, ek2, em2, et2, eu2, eo2⟩ : En) = ⟨xc2, xn2, xk2, xm2, xt2, xu2, xo2⟩
                      · by_cases hop2 : op2 = Sn.1 + 1 + (pre2.length : Int)
                        · obtain ⟨rfl, rfl, rfl, rfl, rfl, rfl, rfl⟩ := En.mk.inj hx2
                          subst hop2
                          clear hx2
                          gi_wp2_with fail
                          refine wpIn_region_heldR (fun w' => w'.cell? ⟨bK, 0, none⟩ = some (.int .i64 pre2.length) ∧ w'.cell? ⟨w2.heap.size, 0, none⟩ = some (.pointer (some ⟨gy, 0, none⟩)) ∧ w'.cell? ⟨gy, 2, none⟩ = some (.slice (some ⟨vb, voff, none⟩) Sn.2.length cv) ∧ w'.cell? ⟨gy, 1, none⟩ = some (.int .i64 Sn.1) ∧ w'.cell? ⟨Bx2, 0, none⟩ = some (.int .i64 ec2) ∧ w'.cell? ⟨Bx2, 1, none⟩ = some (.int .i64 en2) ∧ w'.cell? ⟨Bx2, 2, none⟩ = some (.int .i64 ek2) ∧ w'.cell? ⟨Bx2, 3, none⟩ = some (.string em2) ∧ w'.cell? ⟨Bx2, 4, none⟩ = some (.string et2) ∧ w'.cell? ⟨Bx2, 5, none⟩ = some (.int .i64 eu2) ∧ w'.cell? ⟨Bx2, 6, none⟩ = some (.int .i64 eo2) ∧ w'.cell? ⟨vb, voff + pre2.length * 7, none⟩ = some (.int .i64 ec2) ∧ w'.cell? ⟨vb, voff + pre2.length * 7 + 1, none⟩ = some (.int .i64 en2) ∧ w'.cell? ⟨vb, voff + pre2.length * 7 + 2, none⟩ = some (.int .i64 ek2) ∧ w'.cell? ⟨vb, voff + pre2.length * 7 + 3, none⟩ = some (.string em2) ∧ w'.cell? ⟨vb, voff + pre2.length * 7 + 4, none⟩ = some (.string et2) ∧ w'.cell? ⟨vb, voff + pre2.length * 7 + 5, none⟩ = some (.int .i64 eu2) ∧ w'.cell? ⟨vb, voff + pre2.length * 7 + 6, none⟩ = some (.int .i64 eo2)) (by kernel_rfl) (by kernel_rfl) (by rintro ⟨_, _, h⟩; exact h) ⟨s0, s1, s2, s3, f0, f1, f2, f3, f4, f5, f6, g0, g1, g2, g3, g4, g5, g6⟩ (fun hHeld => ?_)
                          (refine takeL 0 (v := ?_) rfl (by kernel_rfl) (by kernel_rfl) (by kernel_rfl) (fun _ _ _ h => h) (Or.inl ⟨by rfl, ?_⟩) (by assumption) ?_; rotate_left; (focus (intro w9 hSw; (try dsimp only at hSw); go_simp; try with_reducible rfl)); (try simp only [Act.put, List.setIfInBounds_toArray, List.set_cons_zero, List.set_cons_succ]))
                          (refine takeL 1 (v := ?_) rfl (by kernel_rfl) (by kernel_rfl) (by kernel_rfl) (fun _ _ _ h => h) (Or.inl ⟨by rfl, ?_⟩) (by assumption) ?_; rotate_left; (focus (intro w9 hSw; (try dsimp only at hSw); go_simp; try with_reducible rfl)); (try simp only [Act.put, List.setIfInBounds_toArray, List.set_cons_zero, List.set_cons_succ]))
                          (refine takeL 2 (v := ?_) rfl (by kernel_rfl) (by kernel_rfl) (by kernel_rfl) (fun _ _ _ h => h) (Or.inl ⟨by rfl, ?_⟩) (by assumption) ?_; rotate_left; (focus (intro w9 hSw; (try dsimp only at hSw); go_simp; try with_reducible rfl)); (try simp only [Act.put, List.setIfInBounds_toArray, List.set_cons_zero, List.set_cons_succ]))
                          (refine takeL 3 (v := ?_) rfl (by kernel_rfl) (by kernel_rfl) (by kernel_rfl) (fun _ _ _ h => h) (Or.inl ⟨by rfl, ?_⟩) (by assumption) ?_; rotate_left; (focus (intro w9 hSw; (try dsimp only at hSw); go_simp; try with_reducible rfl)); (try simp only [Act.put, List.setIfInBounds_toArray, List.set_cons_zero, List.set_cons_succ]))
                          (refine takeL 4 (v := ?_) rfl (by kernel_rfl) (by kernel_rfl) (by kernel_rfl) (fun _ _ _ h => h) (Or.inl ⟨by rfl, ?_⟩) (by assumption) ?_; rotate_left; (focus (intro w9 hSw; (try dsimp only at hSw); go_simp; try with_reducible rfl)); (try simp only [Act.put, List.setIfInBounds_toArray, List.set_cons_zero, List.set_cons_succ]))
                          (refine takeL 5 (v := ?_) rfl (by kernel_rfl) (by kernel_rfl) (by kernel_rfl) (fun _ _ _ h => h) (Or.inl ⟨by rfl, ?_⟩) (by assumption) ?_; rotate_left; (focus (intro w9 hSw; (try dsimp only at hSw); go_simp; try with_reducible rfl)); (try simp only [Act.put, List.setIfInBounds_toArray, List.set_cons_zero, List.set_cons_succ]))
                          (refine takeL 6 (v := ?_) rfl (by kernel_rfl) (by kernel_rfl) (by kernel_rfl) (fun _ _ _ h => h) (Or.inl ⟨by rfl, ?_⟩) (by assumption) ?_; rotate_left; (focus (intro w9 hSw; (try dsimp only at hSw); go_simp; try with_reducible rfl)); (try simp only [Act.put, List.setIfInBounds_toArray, List.set_cons_zero, List.set_cons_succ]))
                          (refine takeL 7 (v := ?_) rfl (by kernel_rfl) (by kernel_rfl) (by kernel_rfl) (fun _ _ _ h => h) (Or.inl ⟨by rfl, ?_⟩) (by assumption) ?_; rotate_left; (focus (intro w9 hSw; (try dsimp only at hSw); go_simp; try with_reducible rfl)); (try simp only [Act.put, List.setIfInBounds_toArray, List.set_cons_zero, List.set_cons_succ]))
                          (refine takeL 8 (v := ?_) rfl (by kernel_rfl) (by kernel_rfl) (by kernel_rfl) (fun _ _ _ h => h) (Or.inl ⟨by rfl, ?_⟩) (by assumption) ?_; rotate_left; (focus (intro w9 hSw; (try dsimp only at hSw); go_simp; try with_reducible rfl)); (try simp only [Act.put, List.setIfInBounds_toArray, List.set_cons_zero, List.set_cons_succ]))
                          (refine takeL 9 (v := ?_) rfl (by kernel_rfl) (by kernel_rfl) (by kernel_rfl) (fun _ _ _ h => h) (Or.inl ⟨by rfl, ?_⟩) (by assumption) ?_; rotate_left; (focus (intro w9 hSw; (try dsimp only at hSw); go_simp; try with_reducible rfl)); (try simp only [Act.put, List.setIfInBounds_toArray, List.set_cons_zero, List.set_cons_succ]))
                          (refine takeL 10 (v := ?_) rfl (by kernel_rfl) (by kernel_rfl) (by kernel_rfl) (fun _ _ _ h => h) (Or.inl ⟨by rfl, ?_⟩) (by assumption) ?_; rotate_left; (focus (intro w9 hSw; (try dsimp only at hSw); go_simp; try with_reducible rfl)); (try simp only [Act.put, List.setIfInBounds_toArray, List.set_cons_zero, List.set_cons_succ]))
                          (refine takeL 11 (v := ?_) rfl (by kernel_rfl) (by kernel_rfl) (by kernel_rfl) (fun _ _ _ h => h) (Or.inl ⟨by rfl, ?_⟩) (by assumption) ?_; rotate_left; (focus (intro w9 hSw; (try dsimp only at hSw); go_simp; try with_reducible rfl)); (try simp only [Act.put, List.setIfInBounds_toArray, List.set_cons_zero, List.set_cons_succ]))
                          (refine takeL 12 (v := ?_) rfl (by kernel_rfl) (by kernel_rfl) (by kernel_rfl) (fun _ _ _ h => h) (Or.inl ⟨by rfl, ?_⟩) (by assumption) ?_; rotate_left; (focus (intro w9 hSw; (try dsimp only at hSw); go_simp; try with_reducible rfl)); (try simp only [Act.put, List.setIfInBounds_toArray, List.set_cons_zero, List.set_cons_succ]))
                          (refine takeL 13 (v := ?_) rfl (by kernel_rfl) (by kernel_rfl) (by kernel_rfl) (fun _ _ _ h => h) (Or.inl ⟨by rfl, ?_⟩) (by assumption) ?_; rotate_left; (focus (intro w9 hSw; (try dsimp only at hSw); go_simp; try with_reducible rfl)); (try simp only [Act.put, List.setIfInBounds_toArray, List.set_cons_zero, List.set_cons_succ]))
                          (refine takeL 14 (v := ?_) rfl (by kernel_rfl) (by kernel_rfl) (by kernel_rfl) (fun _ _ _ h => h) (Or.inl ⟨by rfl, ?_⟩) (by assumption) ?_; rotate_left; (focus (intro w9 hSw; (try dsimp only at hSw); go_simp; try with_reducible rfl)); (try simp only [Act.put, List.setIfInBounds_toArray, List.set_cons_zero, List.set_cons_succ]))
                          (refine takeL 15 (v := ?_) rfl (by kernel_rfl) (by kernel_rfl) (by kernel_rfl) (fun _ _ _ h => h) (Or.inl ⟨by rfl, ?_⟩) (by assumption) ?_; rotate_left; (focus (intro w9 hSw; (try dsimp only at hSw); go_simp; try with_reducible rfl)); (try simp only [Act.put, List.setIfInBounds_toArray, List.set_cons_zero, List.set_cons_succ]))
                          (refine takeL 16 (v := ?_) rfl (by kernel_rfl) (by kernel_rfl) (by kernel_rfl) (fun _ _ _ h => h) (Or.inl ⟨by rfl, ?_⟩) (by assumption) ?_; rotate_left; (focus (intro w9 hSw; (try dsimp only at hSw); go_simp; try with_reducible rfl)); (try simp only [Act.put, List.setIfInBounds_toArray, List.set_cons_zero, List.set_cons_succ]))
                          (refine takeL 17 (v := ?_) rfl (by kernel_rfl) (by kernel_rfl) (by kernel_rfl) (fun _ _ _ h => h) (Or.inl ⟨by rfl, ?_⟩) (by assumption) ?_; rotate_left; (focus (intro w9 hSw; (try dsimp only at hSw); go_simp; try with_reducible rfl)); (try simp only [Act.put, List.setIfInBounds_toArray, List.set_cons_zero, List.set_cons_succ]))
                          (refine takeL 18 (v := ?_) rfl (by kernel_rfl) (by kernel_rfl) (by kernel_rfl) (fun _ _ _ h => h) (Or.inl ⟨by rfl, ?_⟩) (by assumption) ?_; rotate_left; (focus (intro w9 hSw; (try dsimp only at hSw); go_simp; try with_reducible rfl)); (try simp only [Act.put, List.setIfInBounds_toArray, List.set_cons_zero, List.set_cons_succ]))
                          (refine takeL 19 (v := ?_) rfl (by kernel_rfl) (by kernel_rfl) (by kernel_rfl) (fun _ _ _ h => h) (Or.inl ⟨by rfl, ?_⟩) (by assumption) ?_; rotate_left; (focus (intro w9 hSw; (try dsimp only at hSw); go_simp; try with_reducible rfl)); (try simp only [Act.put, List.setIfInBounds_toArray, List.set_cons_zero, List.set_cons_succ]))
                          (refine takeL 20 (v := ?_) rfl (by kernel_rfl) (by kernel_rfl) (by kernel_rfl) (fun _ _ _ h => h) (Or.inl ⟨by rfl, ?_⟩) (by assumption) ?_; rotate_left; (focus (intro w9 hSw; (try dsimp only at hSw); go_simp; try with_reducible rfl)); (try simp only [Act.put, List.setIfInBounds_toArray, List.set_cons_zero, List.set_cons_succ]))
                          (refine takeL 21 (v := ?_) rfl (by kernel_rfl) (by kernel_rfl) (by kernel_rfl) (fun _ _ _ h => h) (Or.inl ⟨by rfl, ?_⟩) (by assumption) ?_; rotate_left; (focus (intro w9 hSw; (try dsimp only at hSw); go_simp; try with_reducible rfl)); (try simp only [Act.put, List.setIfInBounds_toArray, List.set_cons_zero, List.set_cons_succ]))
                          (refine takeL 22 (v := ?_) rfl (by kernel_rfl) (by kernel_rfl) (by kernel_rfl) (fun _ _ _ h => h) (Or.inl ⟨by rfl, ?_⟩) (by assumption) ?_; rotate_left; (focus (intro w9 hSw; (try dsimp only at hSw); go_simp; try with_reducible rfl)); (try simp only [Act.put, List.setIfInBounds_toArray, List.set_cons_zero, List.set_cons_succ]))
                          (refine takeL 23 (v := ?_) rfl (by kernel_rfl) (by kernel_rfl) (by kernel_rfl) (fun _ _ _ h => h) (Or.inl ⟨by rfl, ?_⟩) (by assumption) ?_; rotate_left; (focus (intro w9 hSw; (try dsimp only at hSw); go_simp; try with_reducible rfl)); (try simp only [Act.put, List.setIfInBounds_toArray, List.set_cons_zero, List.set_cons_succ]))
                          (refine takeL 24 (v := ?_) rfl (by kernel_rfl) (by kernel_rfl) (by kernel_rfl) (fun _ _ _ h => h) (Or.inl ⟨by rfl, ?_⟩) (by assumption) ?_; rotate_left; (focus (intro w9 hSw; (try dsimp only at hSw); go_simp; try with_reducible rfl)); (try simp only [Act.put, List.setIfInBounds_toArray, List.set_cons_zero, List.set_cons_succ]))
                          (refine takeL 25 (v := ?_) rfl (by kernel_rfl) (by kernel_rfl) (by kernel_rfl) (fun _ _ _ h => h) (Or.inl ⟨by rfl, ?_⟩) (by assumption) ?_; rotate_left; (focus (intro w9 hSw; (try dsimp only at hSw); go_simp; try with_reducible rfl)); (try simp only [Act.put, List.setIfInBounds_toArray, List.set_cons_zero, List.set_cons_succ]))
                          (refine takeL 26 (v := ?_) rfl (by kernel_rfl) (by kernel_rfl) (by kernel_rfl) (fun _ _ _ h => h) (Or.inl ⟨by rfl, ?_⟩) (by assumption) ?_; rotate_left; (focus (intro w9 hSw; (try dsimp only at hSw); go_simp; try with_reducible rfl)); (try simp only [Act.put, List.setIfInBounds_toArray, List.set_cons_zero, List.set_cons_succ]))
                          (refine takeL 27 (v := ?_) rfl (by kernel_rfl) (by kernel_rfl) (by kernel_rfl) (fun _ _ _ h => h) (Or.inl ⟨by rfl, ?_⟩) (by assumption) ?_; rotate_left; (focus (intro w9 hSw; (try dsimp only at hSw); go_simp; try with_reducible rfl)); (try simp only [Act.put, List.setIfInBounds_toArray, List.set_cons_zero, List.set_cons_succ]))
                          (refine takeL 28 (v := ?_) rfl (by kernel_rfl) (by kernel_rfl) (by kernel_rfl) (fun _ _ _ h => h) (Or.inl ⟨by rfl, ?_⟩) (by assumption) ?_; rotate_left; (focus (intro w9 hSw; (try dsimp only at hSw); go_simp; try with_reducible rfl)); (try simp only [Act.put, List.setIfInBounds_toArray, List.set_cons_zero, List.set_cons_succ]))
                          refine wpAnyH_done (by kernel_rfl) ?_ _
                          have q0 : W'.drew.cell? ⟨bK, 0, none⟩ = some (.int .i64 pre2.length) := s0
                          have q1 : W'.drew.frozen? ⟨bK, 0, none⟩ = false := KKf.out
                          clear s0 s1 s2 s3 f0 f1 f2 f3 f4 f5 f6 g0 g1 g2 g3 g4 g5 g6 hHeld hjd hjd' hw1 hw2
                          generalize hWx : W'.drew = Wx at *
                          gi_wp2_with fail
                          subst hWx
                          have hgK : gy ≠ bK := fun e => HT8.out.now.2.2 bK rfl ⟨.y, Or.inl e.symm⟩
                          refine ⟨keeps_drew ((KeepsOthers.setCell _ _ _).from _), kpt_drew (kpt_set hs9 hgK), ?_, ?_, ?_⟩
                          · have hn := upA_next HPRE2.out hlt2
                            rw [show Sn.2.getD pre2.length default = ⟨ec2, en2, ek2, em2, et2, eu2, eo2⟩ from by rw [List.getD_eq_getElem?_getD, HE2.out]; rfl] at hn
                            exact hn
                          · exact Nat.le_trans hsz2 (by simp [World.setCell])
                          · have h9 := (HTF.out.drew).put0 0 (.int .i64 ((pre2.length : Int) + 1))
                            rw [List.length_append, List.length_singleton]
                            exact h9
                        · obtain ⟨rfl, rfl, rfl, rfl, rfl, rfl, rfl⟩ := En.mk.inj hx2
                          clear hx2
                          gi_wp2_with fail
                          refine wpIn_region_heldR (fun w' => w'.cell? ⟨bK, 0, none⟩ = some (.int .i64 pre2.length) ∧ w'.cell? ⟨w2.heap.size, 0, none⟩ = some (.pointer (some ⟨gy, 0, none⟩)) ∧ w'.cell? ⟨gy, 2, none⟩ = some (.slice (some ⟨vb, voff, none⟩) Sn.2.length cv) ∧ w'.cell? ⟨gy, 1, none⟩ = some (.int .i64 Sn.1) ∧ w'.cell? ⟨Bx2, 0, none⟩ = some (.int .i64 ec2) ∧ w'.cell? ⟨Bx2, 1, none⟩ = some (.int .i64 en2) ∧ w'.cell? ⟨Bx2, 2, none⟩ = some (.int .i64 ek2) ∧ w'.cell? ⟨Bx2, 3, none⟩ = some (.string em2) ∧ w'.cell? ⟨Bx2, 4, none⟩ = some (.string et2) ∧ w'.cell? ⟨Bx2, 5, none⟩ = some (.int .i64 eu2) ∧ w'.cell? ⟨Bx2, 6, none⟩ = some (.int .i64 eo2) ∧ w'.cell? ⟨vb, voff + pre2.length * 7, none⟩ = some (.int .i64 ec2) ∧ w'.cell? ⟨vb, voff + pre2.length * 7 + 1, none⟩ = some (.int .i64 en2) ∧ w'.cell? ⟨vb, voff + pre2.length * 7 + 2, none⟩ = some (.int .i64 ek2) ∧ w'.cell? ⟨vb, voff + pre2.length * 7 + 3, none⟩ = some (.string em2) ∧ w'.cell? ⟨vb, voff + pre2.length * 7 + 4, none⟩ = some (.string et2) ∧ w'.cell? ⟨vb, voff + pre2.length * 7 + 5, none⟩ = some (.int .i64 eu2) ∧ w'.cell? ⟨vb, voff + pre2.length * 7 + 6, none⟩ = some (.int .i64 eo2)) (by kernel_rfl) (by kernel_rfl) (by rintro ⟨_, _, h⟩; exact h) ⟨s0, s1, s2, s3, f0, f1, f2, f3, f4, f5, f6, g0, g1, g2, g3, g4, g5, g6⟩ (fun hHeld => ?_)
                          (refine takeL 0 (v := ?_) rfl (by kernel_rfl) (by kernel_rfl) (by kernel_rfl) (fun _ _ _ h => h) (Or.inl ⟨by rfl, ?_⟩) (by assumption) ?_; rotate_left; (focus (intro w9 hSw; (try dsimp only at hSw); go_simp; try with_reducible rfl)); (try simp only [Act.put, List.setIfInBounds_toArray, List.set_cons_zero, List.set_cons_succ]))
                          (refine takeL 1 (v := ?_) rfl (by kernel_rfl) (by kernel_rfl) (by kernel_rfl) (fun _ _ _ h => h) (Or.inl ⟨by rfl, ?_⟩) (by assumption) ?_; rotate_left; (focus (intro w9 hSw; (try dsimp only at hSw); go_simp; try with_reducible rfl)); (try simp only [Act.put, List.setIfInBounds_toArray, List.set_cons_zero, List.set_cons_succ]))
                          (refine takeL 2 (v := ?_) rfl (by kernel_rfl) (by kernel_rfl) (by kernel_rfl) (fun _ _ _ h => h) (Or.inl ⟨by rfl, ?_⟩) (by assumption) ?_; rotate_left; (focus (intro w9 hSw; (try dsimp only at hSw); go_simp; try with_reducible rfl)); (try simp only [Act.put, List.setIfInBounds_toArray, List.set_cons_zero, List.set_cons_succ]))
                          (refine takeL 3 (v := ?_) rfl (by kernel_rfl) (by kernel_rfl) (by kernel_rfl) (fun _ _ _ h => h) (Or.inl ⟨by rfl, ?_⟩) (by assumption) ?_; rotate_left; (focus (intro w9 hSw; (try dsimp only at hSw); go_simp; try with_reducible rfl)); (try simp only [Act.put, List.setIfInBounds_toArray, List.set_cons_zero, List.set_cons_succ]))
                          (refine takeL 4 (v := ?_) rfl (by kernel_rfl) (by kernel_rfl) (by kernel_rfl) (fun _ _ _ h => h) (Or.inl ⟨by rfl, ?_⟩) (by assumption) ?_; rotate_left; (focus (intro w9 hSw; (try dsimp only at hSw); go_simp; try with_reducible rfl)); (try simp only [Act.put, List.setIfInBounds_toArray, List.set_cons_zero, List.set_cons_succ]))
                          (refine takeL 5 (v := ?_) rfl (by kernel_rfl) (by kernel_rfl) (by kernel_rfl) (fun _ _ _ h => h) (Or.inl ⟨by rfl, ?_⟩) (by assumption) ?_; rotate_left; (focus (intro w9 hSw; (try dsimp only at hSw); go_simp; try with_reducible rfl)); (try simp only [Act.put, List.setIfInBounds_toArray, List.set_cons_zero, List.set_cons_succ]))
                          (refine takeL 6 (v := ?_) rfl (by kernel_rfl) (by kernel_rfl) (by kernel_rfl) (fun _ _ _ h => h) (Or.inl ⟨by rfl, ?_⟩) (by assumption) ?_; rotate_left; (focus (intro w9 hSw; (try dsimp only at hSw); go_simp; try with_reducible rfl)); (try simp only [Act.put, List.setIfInBounds_toArray, List.set_cons_zero, List.set_cons_succ]))
                          (refine takeL 7 (v := ?_) rfl (by kernel_rfl) (by kernel_rfl) (by kernel_rfl) (fun _ _ _ h => h) (Or.inl ⟨by rfl, ?_⟩) (by assumption) ?_; rotate_left; (focus (intro w9 hSw; (try dsimp only at hSw); go_simp; try with_reducible rfl)); (try simp only [Act.put, List.setIfInBounds_toArray, List.set_cons_zero, List.set_cons_succ]))
                          (refine takeL 8 (v := ?_) rfl (by kernel_rfl) (by kernel_rfl) (by kernel_rfl) (fun _ _ _ h => h) (Or.inl ⟨by rfl, ?_⟩) (by assumption) ?_; rotate_left; (focus (intro w9 hSw; (try dsimp only at hSw); go_simp; try with_reducible rfl)); (try simp only [Act.put, List.setIfInBounds_toArray, List.set_cons_zero, List.set_cons_succ]))
                          (refine takeL 9 (v := ?_) rfl (by kernel_rfl) (by kernel_rfl) (by kernel_rfl) (fun _ _ _ h => h) (Or.inl ⟨by rfl, ?_⟩) (by assumption) ?_; rotate_left; (focus (intro w9 hSw; (try dsimp only at hSw); go_simp; try with_reducible rfl)); (try simp only [Act.put, List.setIfInBounds_toArray, List.set_cons_zero, List.set_cons_succ]))
                          (refine takeL 10 (v := ?_) rfl (by kernel_rfl) (by kernel_rfl) (by kernel_rfl) (fun _ _ _ h => h) (Or.inl ⟨by rfl, ?_⟩) (by assumption) ?_; rotate_left; (focus (intro w9 hSw; (try dsimp only at hSw); go_simp; try with_reducible rfl)); (try simp only [Act.put, List.setIfInBounds_toArray, List.set_cons_zero, List.set_cons_succ]))
                          (refine takeL 11 (v := ?_) rfl (by kernel_rfl) (by kernel_rfl) (by kernel_rfl) (fun _ _ _ h => h) (Or.inl ⟨by rfl, ?_⟩) (by assumption) ?_; rotate_left; (focus (intro w9 hSw; (try dsimp only at hSw); go_simp; try with_reducible rfl)); (try simp only [Act.put, List.setIfInBounds_toArray, List.set_cons_zero, List.set_cons_succ]))
                          (refine takeL 12 (v := ?_) rfl (by kernel_rfl) (by kernel_rfl) (by kernel_rfl) (fun _ _ _ h => h) (Or.inl ⟨by rfl, ?_⟩) (by assumption) ?_; rotate_left; (focus (intro w9 hSw; (try dsimp only at hSw); go_simp; try with_reducible rfl)); (try simp only [Act.put, List.setIfInBounds_toArray, List.set_cons_zero, List.set_cons_succ]))
                          (refine takeL 13 (v := ?_) rfl (by kernel_rfl) (by kernel_rfl) (by kernel_rfl) (fun _ _ _ h => h) (Or.inl ⟨by rfl, ?_⟩) (by assumption) ?_; rotate_left; (focus (intro w9 hSw; (try dsimp only at hSw); go_simp; try with_reducible rfl)); (try simp only [Act.put, List.setIfInBounds_toArray, List.set_cons_zero, List.set_cons_succ]))
                          (refine takeL 14 (v := ?_) rfl (by kernel_rfl) (by kernel_rfl) (by kernel_rfl) (fun _ _ _ h => h) (Or.inl ⟨by rfl, ?_⟩) (by assumption) ?_; rotate_left; (focus (intro w9 hSw; (try dsimp only at hSw); go_simp; try with_reducible rfl)); (try simp only [Act.put, List.setIfInBounds_toArray, List.set_cons_zero, List.set_cons_succ]))
                          (refine takeL 15 (v := ?_) rfl (by kernel_rfl) (by kernel_rfl) (by kernel_rfl) (fun _ _ _ h => h) (Or.inl ⟨by rfl, ?_⟩) (by assumption) ?_; rotate_left; (focus (intro w9 hSw; (try dsimp only at hSw); go_simp; try with_reducible rfl)); (try simp only [Act.put, List.setIfInBounds_toArray, List.set_cons_zero, List.set_cons_succ]))
                          (refine takeL 16 (v := ?_) rfl (by kernel_rfl) (by kernel_rfl) (by kernel_rfl) (fun _ _ _ h => h) (Or.inl ⟨by rfl, ?_⟩) (by assumption) ?_; rotate_left; (focus (intro w9 hSw; (try dsimp only at hSw); go_simp; try with_reducible rfl)); (try simp only [Act.put, List.setIfInBounds_toArray, List.set_cons_zero, List.set_cons_succ]))
                          (refine takeL 17 (v := ?_) rfl (by kernel_rfl) (by kernel_rfl) (by kernel_rfl) (fun _ _ _ h => h) (Or.inl ⟨by rfl, ?_⟩) (by assumption) ?_; rotate_left; (focus (intro w9 hSw; (try dsimp only at hSw); go_simp; try with_reducible rfl)); (try simp only [Act.put, List.setIfInBounds_toArray, List.set_cons_zero, List.set_cons_succ]))
                          (refine takeL 18 (v := ?_) rfl (by kernel_rfl) (by kernel_rfl) (by kernel_rfl) (fun _ _ _ h => h) (Or.inl ⟨by rfl, ?_⟩) (by assumption) ?_; rotate_left; (focus (intro w9 hSw; (try dsimp only at hSw); go_simp; try with_reducible rfl)); (try simp only [Act.put, List.setIfInBounds_toArray, List.set_cons_zero, List.set_cons_succ]))
                          (refine takeL 19 (v := ?_) rfl (by kernel_rfl) (by kernel_rfl) (by kernel_rfl) (fun _ _ _ h => h) (Or.inl ⟨by rfl, ?_⟩) (by assumption) ?_; rotate_left; (focus (intro w9 hSw; (try dsimp only at hSw); go_simp; try with_reducible rfl)); (try simp only [Act.put, List.setIfInBounds_toArray, List.set_cons_zero, List.set_cons_succ]))
                          (refine takeL 20 (v := ?_) rfl (by kernel_rfl) (by kernel_rfl) (by kernel_rfl) (fun _ _ _ h => h) (Or.inl ⟨by rfl, ?_⟩) (by assumption) ?_; rotate_left; (focus (intro w9 hSw; (try dsimp only at hSw); go_simp; try with_reducible rfl)); (try simp only [Act.put, List.setIfInBounds_toArray, List.set_cons_zero, List.set_cons_succ]))
                          (refine takeL 21 (v := ?_) rfl (by kernel_rfl) (by kernel_rfl) (by kernel_rfl) (fun _ _ _ h => h) (Or.inl ⟨by rfl, ?_⟩) (by assumption) ?_; rotate_left; (focus (intro w9 hSw; (try dsimp only at hSw); go_simp; try with_reducible rfl)); (try simp only [Act.put, List.setIfInBounds_toArray, List.set_cons_zero, List.set_cons_succ]))
                          (refine takeL 22 (v := ?_) rfl (by kernel_rfl) (by kernel_rfl) (by kernel_rfl) (fun _ _ _ h => h) (Or.inl ⟨by rfl, ?_⟩) (by assumption) ?_; rotate_left; (focus (intro w9 hSw; (try dsimp only at hSw); go_simp; try with_reducible rfl)); (try simp only [Act.put, List.setIfInBounds_toArray, List.set_cons_zero, List.set_cons_succ]))
                          (refine takeL 23 (v := ?_) rfl (by kernel_rfl) (by kernel_rfl) (by kernel_rfl) (fun _ _ _ h => h) (Or.inl ⟨by rfl, ?_⟩) (by assumption) ?_; rotate_left; (focus (intro w9 hSw; (try dsimp only at hSw); go_simp; try with_reducible rfl)); (try simp only [Act.put, List.setIfInBounds_toArray, List.set_cons_zero, List.set_cons_succ]))
                          (refine takeL 24 (v := ?_) rfl (by kernel_rfl) (by kernel_rfl) (by kernel_rfl) (fun _ _ _ h => h) (Or.inl ⟨by rfl, ?_⟩) (by assumption) ?_; rotate_left; (focus (intro w9 hSw; (try dsimp only at hSw); go_simp; try with_reducible rfl)); (try simp only [Act.put, List.setIfInBounds_toArray, List.set_cons_zero, List.set_cons_succ]))
                          (refine takeL 25 (v := ?_) rfl (by kernel_rfl) (by kernel_rfl) (by kernel_rfl) (fun _ _ _ h => h) (Or.inl ⟨by rfl, ?_⟩) (by assumption) ?_; rotate_left; (focus (intro w9 hSw; (try dsimp only at hSw); go_simp; try with_reducible rfl)); (try simp only [Act.put, List.setIfInBounds_toArray, List.set_cons_zero, List.set_cons_succ]))
                          (refine takeL 26 (v := ?_) rfl (by kernel_rfl) (by kernel_rfl) (by kernel_rfl) (fun _ _ _ h => h) (Or.inl ⟨by rfl, ?_⟩) (by assumption) ?_; rotate_left; (focus (intro w9 hSw; (try dsimp only at hSw); go_simp; try with_reducible rfl)); (try simp only [Act.put, List.setIfInBounds_toArray, List.set_cons_zero, List.set_cons_succ]))
                          (refine takeL 27 (v := ?_) rfl (by kernel_rfl) (by kernel_rfl) (by kernel_rfl) (fun _ _ _ h => h) (Or.inl ⟨by rfl, ?_⟩) (by assumption) ?_; rotate_left; (focus (intro w9 hSw; (try dsimp only at hSw); go_simp; try with_reducible rfl)); (try simp only [Act.put, List.setIfInBounds_toArray, List.set_cons_zero, List.set_cons_succ]))
                          (refine takeL 28 (v := ?_) rfl (by kernel_rfl) (by kernel_rfl) (by kernel_rfl) (fun _ _ _ h => h) (Or.inl ⟨by rfl, ?_⟩) (by assumption) ?_; rotate_left; (focus (intro w9 hSw; (try dsimp only at hSw); go_simp; try with_reducible rfl)); (try simp only [Act.put, List.setIfInBounds_toArray, List.set_cons_zero, List.set_cons_succ]))
                          refine wpAnyH_done (by kernel_rfl) ?_ _
                          have cRf : W'.drew.frozen? ⟨w.heap.size + 1, 0, none⟩ = false := KR2.out
                          have cRc : W'.drew.cell? ⟨w.heap.size + 1, 0, none⟩ = some (.bool false) := KR3.out
                          generalize hWx : W'.drew = Wx at *
                          gi_wp2_with fail
                          subst hWx
                          exact ⟨keeps_drew ((KeepsOthers.setCell _ _ _).from _), rfl, upA_off hlt2 (by
                            rw [show Sn.2.getD pre2.length default = ⟨ec2, en2, ek2, em2, et2, eu2, eo2⟩ from by rw [List.getD_eq_getElem?_getD, HE2.out]; rfl]
                            intro e
                            obtain ⟨e1, e2⟩ := Prod.mk.inj e
                            first | exact hx2 e2 | exact hop2 e1)⟩
                      · have hxf := en_form hx2
                        gi_wp2_with fail
                        refine wpIn_region_heldR (fun w' => w'.cell? ⟨bK, 0, none⟩ = some (.int .i64 pre2.length) ∧ w'.cell? ⟨w2.heap.size, 0, none⟩ = some (.pointer (some ⟨gy, 0, none⟩)) ∧ w'.cell? ⟨gy, 2, none⟩ = some (.slice (some ⟨vb, voff, none⟩) Sn.2.length cv) ∧ w'.cell? ⟨gy, 1, none⟩ = some (.int .i64 Sn.1) ∧ w'.cell? ⟨Bx2, 0, none⟩ = some (.int .i64 ec2) ∧ w'.cell? ⟨Bx2, 1, none⟩ = some (.int .i64 en2) ∧ w'.cell? ⟨Bx2, 2, none⟩ = some (.int .i64 ek2) ∧ w'.cell? ⟨Bx2, 3, none⟩ = some (.string em2) ∧ w'.cell? ⟨Bx2, 4, none⟩ = some (.string et2) ∧ w'.cell? ⟨Bx2, 5, none⟩ = some (.int .i64 eu2) ∧ w'.cell? ⟨Bx2, 6, none⟩ = some (.int .i64 eo2) ∧ w'.cell? ⟨vb, voff + pre2.length * 7, none⟩ = some (.int .i64 xc2) ∧ w'.cell? ⟨vb, voff + pre2.length * 7 + 1, none⟩ = some (.int .i64 xn2) ∧ w'.cell? ⟨vb, voff + pre2.length * 7 + 2, none⟩ = some (.int .i64 xk2) ∧ w'.cell? ⟨vb, voff + pre2.length * 7 + 3, none⟩ = some (.string xm2) ∧ w'.cell? ⟨vb, voff + pre2.length * 7 + 4, none⟩ = some (.string xt2) ∧ w'.cell? ⟨vb, voff + pre2.length * 7 + 5, none⟩ = some (.int .i64 xu2) ∧ w'.cell? ⟨vb, voff + pre2.length * 7 + 6, none⟩ = some (.int .i64 xo2)) (by kernel_rfl) (by kernel_rfl) (by rintro ⟨_, _, h⟩; exact h) ⟨s0, s1, s2, s3, f0, f1, f2, f3, f4, f5, f6, g0, g1, g2, g3, g4, g5, g6⟩ (fun hHeld => ?_)
                        (refine takeL 0 (v := ?_) rfl (by kernel_rfl) (by kernel_rfl) (by kernel_rfl) (fun _ _ _ h => h) (Or.inl ⟨by rfl, ?_⟩) (by assumption) ?_; rotate_left; (focus (intro w9 hSw; (try dsimp only at hSw); go_simp; try with_reducible rfl)); (try simp only [Act.put, List.setIfInBounds_toArray, List.set_cons_zero, List.set_cons_succ]))
                        (refine takeL 1 (v := ?_) rfl (by kernel_rfl) (by kernel_rfl) (by kernel_rfl) (fun _ _ _ h => h) (Or.inl ⟨by rfl, ?_⟩) (by assumption) ?_; rotate_left; (focus (intro w9 hSw; (try dsimp only at hSw); go_simp; try with_reducible rfl)); (try simp only [Act.put, List.setIfInBounds_toArray, List.set_cons_zero, List.set_cons_succ]))
                        (refine takeL 2 (v := ?_) rfl (by kernel_rfl) (by kernel_rfl) (by kernel_rfl) (fun _ _ _ h => h) (Or.inl ⟨by rfl, ?_⟩) (by assumption) ?_; rotate_left; (focus (intro w9 hSw; (try dsimp only at hSw); go_simp; try with_reducible rfl)); (try simp only [Act.put, List.setIfInBounds_toArray, List.set_cons_zero, List.set_cons_succ]))
                        (refine takeL 3 (v := ?_) rfl (by kernel_rfl) (by kernel_rfl) (by kernel_rfl) (fun _ _ _ h => h) (Or.inl ⟨by rfl, ?_⟩) (by assumption) ?_; rotate_left; (focus (intro w9 hSw; (try dsimp only at hSw); go_simp; try with_reducible rfl)); (try simp only [Act.put, List.setIfInBounds_toArray, List.set_cons_zero, List.set_cons_succ]))
                        (refine takeL 4 (v := ?_) rfl (by kernel_rfl) (by kernel_rfl) (by kernel_rfl) (fun _ _ _ h => h) (Or.inl ⟨by rfl, ?_⟩) (by assumption) ?_; rotate_left; (focus (intro w9 hSw; (try dsimp only at hSw); go_simp; try with_reducible rfl)); (try simp only [Act.put, List.setIfInBounds_toArray, List.set_cons_zero, List.set_cons_succ]))
                        (refine takeL 5 (v := ?_) rfl (by kernel_rfl) (by kernel_rfl) (by kernel_rfl) (fun _ _ _ h => h) (Or.inl ⟨by rfl, ?_⟩) (by assumption) ?_; rotate_left; (focus (intro w9 hSw; (try dsimp only at hSw); go_simp; try with_reducible rfl)); (try simp only [Act.put, List.setIfInBounds_toArray, List.set_cons_zero, List.set_cons_succ]))
                        (refine takeL 6 (v := ?_) rfl (by kernel_rfl) (by kernel_rfl) (by kernel_rfl) (fun _ _ _ h => h) (Or.inl ⟨by rfl, ?_⟩) (by assumption) ?_; rotate_left; (focus (intro w9 hSw; (try dsimp only at hSw); go_simp; try with_reducible rfl)); (try simp only [Act.put, List.setIfInBounds_toArray, List.set_cons_zero, List.set_cons_succ]))
                        (refine takeL 7 (v := ?_) rfl (by kernel_rfl) (by kernel_rfl) (by kernel_rfl) (fun _ _ _ h => h) (Or.inl ⟨by rfl, ?_⟩) (by assumption) ?_; rotate_left; (focus (intro w9 hSw; (try dsimp only at hSw); go_simp; try with_reducible rfl)); (try simp only [Act.put, List.setIfInBounds_toArray, List.set_cons_zero, List.set_cons_succ]))
                        (refine takeL 8 (v := ?_) rfl (by kernel_rfl) (by kernel_rfl) (by kernel_rfl) (fun _ _ _ h => h) (Or.inl ⟨by rfl, ?_⟩) (by assumption) ?_; rotate_left; (focus (intro w9 hSw; (try dsimp only at hSw); go_simp; try with_reducible rfl)); (try simp only [Act.put, List.setIfInBounds_toArray, List.set_cons_zero, List.set_cons_succ]))
                        (refine takeL 9 (v := ?_) rfl (by kernel_rfl) (by kernel_rfl) (by kernel_rfl) (fun _ _ _ h => h) (Or.inl ⟨by rfl, ?_⟩) (by assumption) ?_; rotate_left; (focus (intro w9 hSw; (try dsimp only at hSw); go_simp; try with_reducible rfl)); (try simp only [Act.put, List.setIfInBounds_toArray, List.set_cons_zero, List.set_cons_succ]))
                        (refine takeL 10 (v := ?_) rfl (by kernel_rfl) (by kernel_rfl) (by kernel_rfl) (fun _ _ _ h => h) (Or.inl ⟨by rfl, ?_⟩) (by assumption) ?_; rotate_left; (focus (intro w9 hSw; (try dsimp only at hSw); go_simp; try with_reducible rfl)); (try simp only [Act.put, List.setIfInBounds_toArray, List.set_cons_zero, List.set_cons_succ]))
                        (refine takeL 11 (v := ?_) rfl (by kernel_rfl) (by kernel_rfl) (by kernel_rfl) (fun _ _ _ h => h) (Or.inl ⟨by rfl, ?_⟩) (by assumption) ?_; rotate_left; (focus (intro w9 hSw; (try dsimp only at hSw); go_simp; try with_reducible rfl)); (try simp only [Act.put, List.setIfInBounds_toArray, List.set_cons_zero, List.set_cons_succ]))
                        (refine takeL 12 (v := ?_) rfl (by kernel_rfl) (by kernel_rfl) (by kernel_rfl) (fun _ _ _ h => h) (Or.inl ⟨by rfl, ?_⟩) (by assumption) ?_; rotate_left; (focus (intro w9 hSw; (try dsimp only at hSw); go_simp; try with_reducible rfl)); (try simp only [Act.put, List.setIfInBounds_toArray, List.set_cons_zero, List.set_cons_succ]))
                        (refine takeL 13 (v := ?_) rfl (by kernel_rfl) (by kernel_rfl) (by kernel_rfl) (fun _ _ _ h => h) (Or.inl ⟨by rfl, ?_⟩) (by assumption) ?_; rotate_left; (focus (intro w9 hSw; (try dsimp only at hSw); go_simp; try with_reducible rfl)); (try simp only [Act.put, List.setIfInBounds_toArray, List.set_cons_zero, List.set_cons_succ]))
                        (refine takeL 14 (v := ?_) rfl (by kernel_rfl) (by kernel_rfl) (by kernel_rfl) (fun _ _ _ h => h) (Or.inl ⟨by rfl, ?_⟩) (by assumption) ?_; rotate_left; (focus (intro w9 hSw; (try dsimp only at hSw); go_simp; try with_reducible rfl)); (try simp only [Act.put, List.setIfInBounds_toArray, List.set_cons_zero, List.set_cons_succ]))
                        (refine takeL 15 (v := ?_) rfl (by kernel_rfl) (by kernel_rfl) (by kernel_rfl) (fun _ _ _ h => h) (Or.inl ⟨by rfl, ?_⟩) (by assumption) ?_; rotate_left; (focus (intro w9 hSw; (try dsimp only at hSw); go_simp; try with_reducible rfl)); (try simp only [Act.put, List.setIfInBounds_toArray, List.set_cons_zero, List.set_cons_succ]))
                        (refine takeL 16 (v := .bool true) rfl (by kernel_rfl) (by kernel_rfl) (by kernel_rfl) (fun _ _ _ h => h) (Or.inl ⟨by rfl, ?_⟩) (by assumption) ?_; (focus (intro w9 hSw; (try dsimp only at hSw); go_simp; exact hxf)); (try simp only [Act.put, List.setIfInBounds_toArray, List.set_cons_zero, List.set_cons_succ]))
                        (refine takeL 17 (v := ?_) rfl (by kernel_rfl) (by kernel_rfl) (by kernel_rfl) (fun _ _ _ h => h) (Or.inl ⟨by rfl, ?_⟩) (by assumption) ?_; rotate_left; (focus (intro w9 hSw; (try dsimp only at hSw); go_simp; try with_reducible rfl)); (try simp only [Act.put, List.setIfInBounds_toArray, List.set_cons_zero, List.set_cons_succ]))
                        (refine takeL 18 (v := ?_) rfl (by kernel_rfl) (by kernel_rfl) (by kernel_rfl) (fun _ _ _ h => h) (Or.inl ⟨by rfl, ?_⟩) (by assumption) ?_; rotate_left; (focus (intro w9 hSw; (try dsimp only at hSw); go_simp; try with_reducible rfl)); (try simp only [Act.put, List.setIfInBounds_toArray, List.set_cons_zero, List.set_cons_succ]))
                        (refine takeL 19 (v := undef) rfl (by kernel_rfl) (by kernel_rfl) (by kernel_rfl) (fun _ _ _ h => h) (Or.inr ⟨by rfl, rfl⟩) (by assumption) ?_; (try simp only [Act.put, List.setIfInBounds_toArray, List.set_cons_zero, List.set_cons_succ]))
                        (refine takeL 20 (v := undef) rfl (by kernel_rfl) (by kernel_rfl) (by kernel_rfl) (fun _ _ _ h => h) (Or.inr ⟨by rfl, rfl⟩) (by assumption) ?_; (try simp only [Act.put, List.setIfInBounds_toArray, List.set_cons_zero, List.set_cons_succ]))
                        (refine takeL 21 (v := undef) rfl (by kernel_rfl) (by kernel_rfl) (by kernel_rfl) (fun _ _ _ h => h) (Or.inr ⟨by rfl, rfl⟩) (by assumption) ?_; (try simp only [Act.put, List.setIfInBounds_toArray, List.set_cons_zero, List.set_cons_succ]))
                        (refine takeL 22 (v := undef) rfl (by kernel_rfl) (by kernel_rfl) (by kernel_rfl) (fun _ _ _ h => h) (Or.inr ⟨by rfl, rfl⟩) (by assumption) ?_; (try simp only [Act.put, List.setIfInBounds_toArray, List.set_cons_zero, List.set_cons_succ]))
                        (refine takeL 23 (v := undef) rfl (by kernel_rfl) (by kernel_rfl) (by kernel_rfl) (fun _ _ _ h => h) (Or.inr ⟨by rfl, rfl⟩) (by assumption) ?_; (try simp only [Act.put, List.setIfInBounds_toArray, List.set_cons_zero, List.set_cons_succ]))
                        (refine takeL 24 (v := undef) rfl (by kernel_rfl) (by kernel_rfl) (by kernel_rfl) (fun _ _ _ h => h) (Or.inr ⟨by rfl, rfl⟩) (by assumption) ?_; (try simp only [Act.put, List.setIfInBounds_toArray, List.set_cons_zero, List.set_cons_succ]))
                        (refine takeL 25 (v := undef) rfl (by kernel_rfl) (by kernel_rfl) (by kernel_rfl) (fun _ _ _ h => h) (Or.inr ⟨by rfl, rfl⟩) (by assumption) ?_; (try simp only [Act.put, List.setIfInBounds_toArray, List.set_cons_zero, List.set_cons_succ]))
                        (refine takeL 26 (v := undef) rfl (by kernel_rfl) (by kernel_rfl) (by kernel_rfl) (fun _ _ _ h => h) (Or.inr ⟨by rfl, rfl⟩) (by assumption) ?_; (try simp only [Act.put, List.setIfInBounds_toArray, List.set_cons_zero, List.set_cons_succ]))
                        (refine takeL 27 (v := undef) rfl (by kernel_rfl) (by kernel_rfl) (by kernel_rfl) (fun _ _ _ h => h) (Or.inr ⟨by rfl, rfl⟩) (by assumption) ?_; (try simp only [Act.put, List.setIfInBounds_toArray, List.set_cons_zero, List.set_cons_succ]))
                        (refine takeL 28 (v := ?_) rfl (by kernel_rfl) (by kernel_rfl) (by kernel_rfl) (fun _ _ _ h => h) (Or.inl ⟨by rfl, ?_⟩) (by assumption) ?_; rotate_left; (focus (intro w9 hSw; (try dsimp only at hSw); go_simp; try with_reducible rfl)); (try simp only [Act.put, List.setIfInBounds_toArray, List.set_cons_zero, List.set_cons_succ]))
                        refine wpAnyH_done (by kernel_rfl) ?_ _
                        have cRf : W'.drew.frozen? ⟨w.heap.size + 1, 0, none⟩ = false := KR2.out
                        have cRc : W'.drew.cell? ⟨w.heap.size + 1, 0, none⟩ = some (.bool false) := KR3.out
                        generalize hWx : W'.drew = Wx at *
                        gi_wp2_with fail
                        subst hWx
                        exact ⟨keeps_drew ((KeepsOthers.setCell _ _ _).from _), rfl, upA_off hlt2 (by
                          rw [show Sn.2.getD pre2.length default = ⟨xc2, xn2, xk2, xm2, xt2, xu2, xo2⟩ from by rw [List.getD_eq_getElem?_getD, HE2.out]; rfl]
                          intro e
                          obtain ⟨e1, e2⟩ := Prod.mk.inj e
                          first | exact hx2 e2 | exact hop2 e1)⟩
                    case done2 =>
                      rintro xs W' hS ⟨hpre2, hsz2, ht2⟩
                      have hsub := HACT2.out
                      subst hsub
                      have hlx : xs.length = Sn.2.length := by rw [hS, upA_len]
                      obtain ⟨-, -, -, kY2, -, -, -, kI2, -, -⟩ := boxes HR0.out HR1.out HRD.out.2.2 ht2.now.2.1
                      obtain ⟨Av, cv, hv2⟩ := rO_slice (fO_hy ht2.now.2.1)
                      have d0 : W'.cell? ⟨bK, 0, none⟩ = some (.int .i64 Sn.2.length) := by have := Blk.cell ht2.now.1 0; rw [hlx] at this; exact this
                      have d1 : W'.cell? ⟨w2.heap.size, 0, none⟩ = some (.pointer (some ⟨gy, 0, none⟩)) := kY2.cell 0
                      have d2 : W'.cell? ⟨gy, 2, none⟩ = some (.slice Av Sn.2.length cv) := by rw [← hv2]; exact (rO_cells (fO_hy ht2.now.2.1)).2.2
                      have e1 : W'.drew.cell? ⟨bI, 0, none⟩ = some (.int .i64 pre.length) := kI2.cell 0
                      have e2 : W'.drew.frozen? ⟨bI, 0, none⟩ = false := kI2.frozen 0
                      have HTF := Lib.hid ht2.dropL
                      have hwi : IntKind.i64.wrap ((pre.length : Int) + 1) = (pre.length : Int) + 1 := IntWalk.i64_in _ (by omega)
                      clear ht2 kY2 kI2 hv2 hact2 HACT2 hpre2 hS
                      gi_wp2_with fail
                      refine wpIn_region_heldR (fun w' => w'.cell? ⟨bK, 0, none⟩ = some (.int .i64 Sn.2.length) ∧ w'.cell? ⟨w2.heap.size, 0, none⟩ = some (.pointer (some ⟨gy, 0, none⟩)) ∧ w'.cell? ⟨gy, 2, none⟩ = some (.slice Av Sn.2.length cv)) (by kernel_rfl) (by kernel_rfl) (by rintro ⟨_, _, h⟩; exact h) ⟨d0, d1, d2⟩ (fun hHeld => ?_)
                      (refine takeL 0 (v := ?_) rfl (by kernel_rfl) (by kernel_rfl) (by kernel_rfl) (fun _ _ _ h => h) (Or.inl ⟨by rfl, ?_⟩) (by assumption) ?_; rotate_left; (focus (intro w9 hSw; (try dsimp only at hSw); go_simp; try with_reducible rfl)); (try simp only [Act.put, List.setIfInBounds_toArray, List.set_cons_zero, List.set_cons_succ]))
                      (refine takeL 1 (v := ?_) rfl (by kernel_rfl) (by kernel_rfl) (by kernel_rfl) (fun _ _ _ h => h) (Or.inl ⟨by rfl, ?_⟩) (by assumption) ?_; rotate_left; (focus (intro w9 hSw; (try dsimp only at hSw); go_simp; try with_reducible rfl)); (try simp only [Act.put, List.setIfInBounds_toArray, List.set_cons_zero, List.set_cons_succ]))
                      (refine takeL 2 (v := ?_) rfl (by kernel_rfl) (by kernel_rfl) (by kernel_rfl) (fun _ _ _ h => h) (Or.inl ⟨by rfl, ?_⟩) (by assumption) ?_; rotate_left; (focus (intro w9 hSw; (try dsimp only at hSw); go_simp; try with_reducible rfl)); (try simp only [Act.put, List.setIfInBounds_toArray, List.set_cons_zero, List.set_cons_succ]))
                      (refine takeL 3 (v := ?_) rfl (by kernel_rfl) (by kernel_rfl) (by kernel_rfl) (fun _ _ _ h => h) (Or.inl ⟨by rfl, ?_⟩) (by assumption) ?_; rotate_left; (focus (intro w9 hSw; (try dsimp only at hSw); go_simp; try with_reducible rfl)); (try simp only [Act.put, List.setIfInBounds_toArray, List.set_cons_zero, List.set_cons_succ]))
                      (refine takeL 4 (v := ?_) rfl (by kernel_rfl) (by kernel_rfl) (by kernel_rfl) (fun _ _ _ h => h) (Or.inl ⟨by rfl, ?_⟩) (by assumption) ?_; rotate_left; (focus (intro w9 hSw; (try dsimp only at hSw); go_simp; try with_reducible rfl)); (try simp only [Act.put, List.setIfInBounds_toArray, List.set_cons_zero, List.set_cons_succ]))
                      (refine takeL 5 (v := ?_) rfl (by kernel_rfl) (by kernel_rfl) (by kernel_rfl) (fun _ _ _ h => h) (Or.inl ⟨by rfl, ?_⟩) (by assumption) ?_; rotate_left; (focus (intro w9 hSw; (try dsimp only at hSw); go_simp; try with_reducible rfl)); (try simp only [Act.put, List.setIfInBounds_toArray, List.set_cons_zero, List.set_cons_succ]))
                      (refine takeL 6 (v := ?_) rfl (by kernel_rfl) (by kernel_rfl) (by kernel_rfl) (fun _ _ _ h => h) (Or.inl ⟨by rfl, ?_⟩) (by assumption) ?_; rotate_left; (focus (intro w9 hSw; (try dsimp only at hSw); go_simp; try with_reducible rfl)); (try simp only [Act.put, List.setIfInBounds_toArray, List.set_cons_zero, List.set_cons_succ]))
                      refine wpAnyH_done (by kernel_rfl) ?_ _
                      clear d0 d1 d2 hHeld
                      generalize hWx : W'.drew = Wx at *
                      gi_wp2_with fail
                      subst hWx
                      have t2 := HTF.out.trans ((bump ((pre.length : Int) + 1) (show _ from HTF.out.drew.now)).drewl)
                      obtain ⟨k1, k2⟩ := round_kept HT5.out.now HRC.out HTW.out.now t2
                      refine ⟨k1, k2, ?_, ?_, v2, ?_⟩
                      · have hn := upA_next HPRE.out hlt
                        rw [show A.2.getD pre.length default = ⟨ec, en, ek, em, et, eu, eo⟩ from by rw [List.getD_eq_getElem?_getD, HE0.out]; rfl] at hn
                        exact hn
                      · exact Nat.le_trans hsz t2.chg.size
                      · have ht := HTW.out.trans t2
                        rw [List.length_append, List.length_singleton, ← HSN.out]
                        exact ht
                    case stop2 =>
                      intro c pre2 W' hp hx
                      exact absurd hp hx.2
                · rw [hkk] at HAM
                  gi_wp2_with (refine ⟨trivial, ?_⟩; gi_at_call 32; refine (CallsIn.inRound l (callsIn_wide.2 (HAM.out _))).mono ?_; rintro r w6 ⟨rfl, rfl⟩)
                  have hSo : (stt room A acts pre.length).Ok room := stt_ok HOK.out acts _
                  have HT6 : Hid (Turns W (Wd.alloc (.cells #[.int .i64 kd, .int .i64 lg, .int .i64 aop, .int .i64 mo, .int .i64 yc, .int .i64 yn, .int .i64 yk, .string ym, .string yt, .int .i64 yu, .int .i64 yo, .slice A3 al.length c3] 54)) (fO gx pbx gy room (stt room A acts pre.length) (stt room A acts pre.length) v (upd R2 7 (Hp.Own.blk bI #[.int .i64 pre.length] 3))) (fO gx pbx gy room (stt room A acts pre.length) (stt room A acts pre.length) v (upd R2 7 (Hp.Own.blk bI #[.int .i64 pre.length] 3)))) := by rw [← hWd]; exact ((Turns.refl HTW.out.now).drew).alloc _
                  have HB6 : Hid (Bes Wd.heap.size #[.int .i64 kd, .int .i64 lg, .int .i64 aop, .int .i64 mo, .int .i64 yc, .int .i64 yn, .int .i64 yk, .string ym, .string yt, .int .i64 yu, .int .i64 yo, .slice A3 al.length c3] 54 (Wd.alloc (.cells #[.int .i64 kd, .int .i64 lg, .int .i64 aop, .int .i64 mo, .int .i64 yc, .int .i64 yn, .int .i64 yk, .string ym, .string yt, .int .i64 yu, .int .i64 yo, .slice A3 al.length c3] 54)) (fO gx pbx gy room (stt room A acts pre.length) (stt room A acts pre.length) v (upd R2 7 (Hp.Own.blk bI #[.int .i64 pre.length] 3)))) := Bes.new HTD.out.now _ _
                  obtain ⟨W5, hW5⟩ : ∃ W5, W5 = Wd.alloc (.cells #[.int .i64 kd, .int .i64 lg, .int .i64 aop, .int .i64 mo, .int .i64 yc, .int .i64 yn, .int .i64 yk, .string ym, .string yt, .int .i64 yu, .int .i64 yo, .slice A3 al.length c3] 54) := ⟨_, rfl⟩
                  rw [← hW5] at HT6 HB6 ⊢
                  clear hW5 a0 a1 a2 a3 a4 a5 a6 a7 a8 a9 a10 a11 q5 q16
                  obtain ⟨zb, hzb⟩ : ∃ zb, zb = W.heap.size := ⟨_, rfl⟩
                  rw [hszd, ← hzb] at HB6
                  rw [← hzb]
                  have HZB := Lib.hid hzb
                  have HSZ := Lib.hid hszd
                  clear hzb hszd
                  apply cut_in (R := fun w' => ∃ v', Turns W w' (fO gx pbx gy room (stt room A acts pre.length) (stt room A acts pre.length) v (upd R2 7 (Hp.Own.blk bI #[.int .i64 pre.length] 3))) (fO gx pbx gy room ((aCut (stt room A acts pre.length) aop).2) ((aCut (stt room A acts pre.length) aop).2) v' (upd R2 7 (Hp.Own.blk bI #[.int .i64 pre.length] 3))))
                  case h =>
                    refine wpIn_region_heldR (fun w' => w'.cell? ⟨w1.heap.size, 0, none⟩ = some (.pointer (some ⟨gx, 0, none⟩)) ∧ w'.cell? ⟨w2.heap.size, 0, none⟩ = some (.pointer (some ⟨gy, 0, none⟩)) ∧ w'.cell? ⟨zb, 2, none⟩ = some (.int .i64 aop)) (by kernel_rfl) (by kernel_rfl) (by rintro ⟨_, _, h, _⟩; cases h) ⟨(boxes HR0.out HR1.out HRD.out.2.2 HT6.out.now).2.2.1.cell 0, (boxes HR0.out HR1.out HRD.out.2.2 HT6.out.now).2.2.2.1.cell 0, HB6.out.blk.cell 2⟩ (fun hHeld => ?_)
                    (refine takeL 0 (v := ?_) rfl (by kernel_rfl) (by kernel_rfl) (by kernel_rfl) (fun _ _ _ h => nomatch h.1) (Or.inl ⟨by rfl, ?_⟩) (by assumption) ?_; rotate_left; (focus (intro w9 hSw; (try dsimp only at hSw); go_simp; try with_reducible rfl)); (try simp only [Act.put, List.setIfInBounds_toArray, List.set_cons_zero, List.set_cons_succ]))
                    (refine takeL 1 (v := ?_) rfl (by kernel_rfl) (by kernel_rfl) (by kernel_rfl) (fun _ _ _ h => nomatch h.1) (Or.inl ⟨by rfl, ?_⟩) (by assumption) ?_; rotate_left; (focus (intro w9 hSw; (try dsimp only at hSw); go_simp; try with_reducible rfl)); (try simp only [Act.put, List.setIfInBounds_toArray, List.set_cons_zero, List.set_cons_succ]))
                    (refine takeL 2 (v := ?_) rfl (by kernel_rfl) (by kernel_rfl) (by kernel_rfl) (fun _ _ _ h => nomatch h.1) (Or.inl ⟨by rfl, ?_⟩) (by assumption) ?_; rotate_left; (focus (intro w9 hSw; (try dsimp only at hSw); go_simp; try with_reducible rfl)); (try simp only [Act.put, List.setIfInBounds_toArray, List.set_cons_zero, List.set_cons_succ]))
                    (refine takeL 4 (v := ?_) rfl (by kernel_rfl) (by kernel_rfl) (by kernel_rfl) (fun _ _ _ h => nomatch h.1) (Or.inl ⟨by rfl, ?_⟩) (by assumption) ?_; rotate_left; (focus (intro w9 hSw; (try dsimp only at hSw); go_simp; try with_reducible rfl)); (try simp only [Act.put, List.setIfInBounds_toArray, List.set_cons_zero, List.set_cons_succ]))
                    (refine takeL 5 (v := ?_) rfl (by kernel_rfl) (by kernel_rfl) (by kernel_rfl) (fun _ _ _ h => nomatch h.1) (Or.inl ⟨by rfl, ?_⟩) (by assumption) ?_; rotate_left; (focus (intro w9 hSw; (try dsimp only at hSw); go_simp; try with_reducible rfl)); (try simp only [Act.put, List.setIfInBounds_toArray, List.set_cons_zero, List.set_cons_succ]))
                    (refine takeL 6 (v := ?_) rfl (by kernel_rfl) (by kernel_rfl) (by kernel_rfl) (fun _ _ _ h => nomatch h.1) (Or.inl ⟨by rfl, ?_⟩) (by assumption) ?_; rotate_left; (focus (intro w9 hSw; (try dsimp only at hSw); go_simp; try with_reducible rfl)); (try simp only [Act.put, List.setIfInBounds_toArray, List.set_cons_zero, List.set_cons_succ]))
                    refine wpAnyH_ready (rs := [3]) (by kernel_rfl) (by simp) ?_
                    refine consL 3 rfl (fun K hK => ?_) AllReadyH.nil
                    · go_simp
                      refine (fCut (Ay := stt room A acts pre.length) (v := v) (R := upd R2 7 (Hp.Own.blk bI #[.int .i64 pre.length] 3)) (gy := gy) (pbx := pbx) (m := room) (stt room A acts pre.length) aop _ (by exact HT6.out.drew.now)).mono ?_
                      rintro r wA ⟨rfl, tA⟩
                      have tA2 := HT6.out.trans tA.drewl
                      have bA := HB6.out.step tA.drewl
                      refine hK.out _ _ ⟨(boxes HR0.out HR1.out HRD.out.2.2 tA2.now).2.2.1.cell 0, (boxes HR0.out HR1.out HRD.out.2.2 tA2.now).2.2.2.1.cell 0, bA.blk.cell 2⟩ (fun hHeld => ?_)
                      clear hK K
                      (try simp only [Act.put, List.setIfInBounds_toArray, List.set_cons_zero, List.set_cons_succ])
                      refine wpAnyH_ready (rs := [7]) (by kernel_rfl) (by simp) ?_
                      refine consL 7 rfl (fun K hK => ?_) AllReadyH.nil
                      go_simp
                      refine (gCut (Ax := (aCut (stt room A acts pre.length) aop).2) (v := v) (R := upd R2 7 (Hp.Own.blk bI #[.int .i64 pre.length] 3)) (gx := gx) (pbx := pbx) (m := room) (stt room A acts pre.length) hSo aop _ (by exact tA2.now)).mono ?_
                      rintro r wB ⟨rfl, v2, tB⟩
                      have tB2 := tA2.trans tB
                      have bB := bA.step tB
                      refine hK.out _ _ ⟨(boxes HR0.out HR1.out HRD.out.2.2 tB2.now).2.2.1.cell 0, (boxes HR0.out HR1.out HRD.out.2.2 tB2.now).2.2.2.1.cell 0, bB.blk.cell 2⟩ (fun hHeld => ?_)
                      clear hK K
                      (try simp only [Act.put, List.setIfInBounds_toArray, List.set_cons_zero, List.set_cons_succ])
                      (refine takeL 8 (v := ?_) rfl (by kernel_rfl) (by kernel_rfl) (by kernel_rfl) (fun _ _ _ h => nomatch h.1) (Or.inl ⟨by rfl, ?_⟩) (by assumption) ?_; rotate_left; (focus (intro w9 hSw; (try dsimp only at hSw); go_simp; try with_reducible rfl)); (try simp only [Act.put, List.setIfInBounds_toArray, List.set_cons_zero, List.set_cons_succ]))
                      refine wpAnyH_done (by kernel_rfl) ?_ _
                      exact ⟨rfl, rfl, v2, tB2⟩
                  case k =>
                    rintro w7 ⟨v2, tR⟩
                    have hst : (aCut (stt room A acts pre.length) aop).2 = stt room A acts (pre.length + 1) := by
                      rw [stt_next HGET.out]
                      unfold aStep
                      rw [if_neg (by show ¬ am kd 3 = 0; omega), if_pos hkk]
                    rw [hst] at tR
                    clear hst
                    have hok2 : (stt room A acts (pre.length + 1)).Ok room := stt_ok HOK.out acts _
                    obtain ⟨Sn, hSn⟩ : ∃ S, S = stt room A acts (pre.length + 1) := ⟨_, rfl⟩
                    rw [← hSn] at tR hok2
                    have HSN := Lib.hid hSn
                    clear hSn
                    obtain ⟨-, -, -, -, kF7, -, -, -, kC7, -⟩ := boxes HR0.out HR1.out HRD.out.2.2 tR.now
                    have HK7 := Lib.hid (round_kept HT5.out.now HRC.out HTW.out.now tR)
                    have z13 : (w7.alloc (.cells #[.int .i64 0] 3)).cell? ⟨wr.heap.size + 1, 0, none⟩ = some (.func (.func 48) #[] #[.pointer (some ⟨wr.heap.size, 0, none⟩)]) := (kF7.alloc _).cell 0
                    have HC7 := Lib.hid (kC7.alloc (.cells #[.int .i64 0] 3))
                    have HT8 := Lib.hid (tR.pushT (Turns.blk_new w7 #[.int .i64 0] 3))
                    have hl8 : (w7.alloc (.cells #[.int .i64 0] 3)).heap[l]? = some (.loop rl) := by
                      have h7 := HK7.out.1.same l _ hl HRL.out rfl
                      exact (Below.heap_alloc _ _ _ (Array.getElem?_eq_some_iff.1 h7).1).trans h7
                    have hs8 : W.heap.size ≤ w7.heap.size := tR.chg.size
                    clear tR kF7 kC7
                    gi_wp2_with fail
                    obtain ⟨W8, hW8⟩ : ∃ W8, W8 = w7.alloc (.cells #[.int .i64 0] 3) := ⟨_, rfl⟩
                    rw [← hW8] at hl8 HT8 HC7 z13 ⊢
                    have hs9 : w7.heap.size < W8.heap.size := by rw [hW8]; simp
                    have HKA : Hid (Chg (fun _ => False) w7 W8) := by rw [hW8]; exact (Chg.refl _ _).alloc _
                    have lg8 : gy < W8.heap.size := Blk.lt (fO_hy HT8.out.now.2.1).1
                    have hp8 : ∀ b, pts W8 ⟨gy, 2, none⟩ b → b < W8.heap.size := fun b hb => pts_lt HT8.out.now.2.1 b hb
                    clear hW8
                    generalize hbK : w7.heap.size = bK at *
                    generalize hact2 : Act.mk _ _ = act2
                    have HACT2 := Lib.hid hact2
                    have hcf : ∀ k : Int, Celled (Hp.Own.both (Hp.Own.blk bK #[.int .i64 k] 3) (fO gx pbx gy room Sn Sn v2 (upd R2 7 (Hp.Own.blk bI #[.int .i64 pre.length] 3)))) := fun k => celled_both (celled_blk _ _ _) (celled_fO _ _ _ _ _ _ _ _ (celled_upd HRC.out 7 (celled_blk _ _ _)))
                    refine wpIn_rangeFunc_ownN (l₀ := l) (r₀ := rl) rfl hl8 (by omega) (gf := 48) (lb := #[.pointer (some ⟨wr.heap.size, 0, none⟩)]) (by rw [← hact2]; rfl) trivial (enters_of Try.func48 (by kernel_rfl) rfl)
                      ((all_seq gx pbx room Sn wr.heap.size W8.heap.size (5 - 1 - 1 - 1) ⟨gy, 2, none⟩ W8 (Nat.le_refl _) lg8 hp8 (Blk.lt HC7.out) (Blk.cell HC7.out 0) (fO_hx HT8.out.now.2.1) (by omega)).inRound l) kpt_t (kpt_b lg8) (Below.refl _ _) (fun _ => rfl)
                      (fun pre2 W' => pre2 <+: upA Sn Sn.2.length ∧ W8.heap.size ≤ W'.heap.size ∧ Turns W W' (fO gx pbx gy room (stt room A acts pre.length) (stt room A acts pre.length) v (upd R2 7 (Hp.Own.blk bI #[.int .i64 pre.length] 3))) (Hp.Own.both (Hp.Own.blk bK #[.int .i64 pre2.length] 3) (fO gx pbx gy room Sn Sn v2 (upd R2 7 (Hp.Own.blk bI #[.int .i64 pre.length] 3)))))
                      (fun c pre2 _ => c = .ret ∧ ¬ pre2 <+: upA Sn Sn.2.length)
                      ?hI2 ?hIx2 ?h02
                      (fun x a' W' => ∃ Bx2, Vbx W8.heap.size gy W' Bx2 x.2.cells.toArray 51 ∧ gy < W'.heap.size ∧ a' = { tmps := (((act2.tmps.setIfInBounds 151 (.int .i64 x.1)).setIfInBounds 152 (.agg x.2.cells.toArray)).setIfInBounds 21 (.int .i64 x.1)).setIfInBounds 22 (.pointer (some ⟨Bx2, 0, none⟩)), defers := [] })
                      ?hAx2 ?assign2 ?body2 ?done2 ?stop2
                    case hI2 =>
                      intro pre2 X Y row hs hg hr
                      obtain ⟨h1, h2, h3⟩ := hs
                      exact ⟨h1, Nat.le_trans h2 hg.size, turns_keep2 (hcf _) (by omega) h3 hg hr⟩
                    case hIx2 => exact fun c => ownFrom_pure _ _
                    case h02 => exact ⟨List.nil_prefix, Nat.le_refl _, HT8.out⟩
                    case hAx2 =>
                      intro x a' s X Y row hs hg hr
                      obtain ⟨Bx2, h1, h2, h3⟩ := hs
                      exact ⟨Bx2, h1.keep lg8 h2 hg hr, Nat.lt_of_lt_of_le h2 hg.size, h3⟩
                    case assign2 =>
                      rintro l2 pre2 ⟨op2, ec2, en2, ek2, em2, et2, eu2, eo2⟩ W' K ⟨hpre2, hsz2, ht2⟩ hK
                      have hsub := HACT2.out
                      subst hsub
                      have hgW2 : gy < W'.heap.size := Nat.lt_of_lt_of_le lg8 hsz2
                      have HPL := Lib.hid (fun b hb => pts_lt ht2.now.2.1 b hb)
                      have HTW2 := Lib.hid ht2
                      clear ht2 hact2 HACT2
                      dsimp only [encE, En.cells]
                      gi_wp2_with fail
                      exact hK _ _ ((KeepsOthers.alloc _ _).from _) (Kpt.of_chg ((Chg.refl _ _).alloc _) hgW2) ⟨hpre2, Nat.le_trans hsz2 (by simp), HTW2.out.alloc _⟩
                        ⟨W'.heap.size, ⟨hsz2, fun hp => Nat.lt_irrefl _ (HPL.out _ (pts_of_block (Below.heap_alloc _ _ _ hgW2) _ hp)), Blk.new _ _ _⟩, Nat.lt_of_lt_of_le hgW2 (by simp), rfl⟩
                    case body2 =>
                      rintro l2 pre2 ⟨op2, ec2, en2, ek2, em2, et2, eu2, eo2⟩ a2 W' hl2 ⟨rl2, hrl2⟩ ⟨hpre2, hsz2, ht2⟩ ⟨Bx2, hvb2, hgW2, rfl⟩ hlt2
                      have hsub := HACT2.out
                      subst hsub
                      obtain ⟨-, kR2, -, kY2, -, -, -, -, -, -⟩ := boxes HR0.out HR1.out HRD.out.2.2 ht2.now.2.1
                      obtain ⟨Av, cv, hv2⟩ := rO_slice (fO_hy ht2.now.2.1)
                      obtain ⟨e0, he0⟩ : ∃ e, Sn.2[pre2.length]? = some e := ⟨Sn.2[pre2.length]'hlt2, List.getElem?_eq_getElem _⟩
                      have hrow := (fO_hy ht2.now.2.1).2.1
                      rw [hv2] at hrow
                      obtain ⟨vb, voff, hAc, hwb, hwc⟩ := EnS.of_row hrow _ _ he0
                      subst hAc
                      obtain ⟨xc2, xn2, xk2, xm2, xt2, xu2, xo2⟩ := e0
                      have s0 : W'.cell? ⟨bK, 0, none⟩ = some (.int .i64 pre2.length) := Blk.cell ht2.now.1 0
                      have s1 : W'.cell? ⟨w2.heap.size, 0, none⟩ = some (.pointer (some ⟨gy, 0, none⟩)) := kY2.cell 0
                      have s2 : W'.cell? ⟨gy, 2, none⟩ = some (.slice (some ⟨vb, voff, none⟩) Sn.2.length cv) := by rw [← hv2]; exact (rO_cells (fO_hy ht2.now.2.1)).2.2
                      have s3 : W'.cell? ⟨gy, 1, none⟩ = some (.int .i64 Sn.1) := (rO_cells (fO_hy ht2.now.2.1)).2.1
                      have f0 : W'.cell? ⟨Bx2, 0, none⟩ = some (.int .i64 ec2) := hvb2.2.2.cell 0
                      have f1 : W'.cell? ⟨Bx2, 1, none⟩ = some (.int .i64 en2) := hvb2.2.2.cell 1
                      have f2 : W'.cell? ⟨Bx2, 2, none⟩ = some (.int .i64 ek2) := hvb2.2.2.cell 2
                      have f3 : W'.cell? ⟨Bx2, 3, none⟩ = some (.string em2) := hvb2.2.2.cell 3
                      have f4 : W'.cell? ⟨Bx2, 4, none⟩ = some (.string et2) := hvb2.2.2.cell 4
                      have f5 : W'.cell? ⟨Bx2, 5, none⟩ = some (.int .i64 eu2) := hvb2.2.2.cell 5
                      have f6 : W'.cell? ⟨Bx2, 6, none⟩ = some (.int .i64 eo2) := hvb2.2.2.cell 6
                      have g0 : W'.cell? ⟨vb, voff + pre2.length * 7, none⟩ = some (.int .i64 xc2) := hwc 0 _ rfl
                      have g1 : W'.cell? ⟨vb, voff + pre2.length * 7 + 1, none⟩ = some (.int .i64 xn2) := hwc 1 _ rfl
                      have g2 : W'.cell? ⟨vb, voff + pre2.length * 7 + 2, none⟩ = some (.int .i64 xk2) := hwc 2 _ rfl
                      have g3 : W'.cell? ⟨vb, voff + pre2.length * 7 + 3, none⟩ = some (.string xm2) := hwc 3 _ rfl
                      have g4 : W'.cell? ⟨vb, voff + pre2.length * 7 + 4, none⟩ = some (.string xt2) := hwc 4 _ rfl
                      have g5 : W'.cell? ⟨vb, voff + pre2.length * 7 + 5, none⟩ = some (.int .i64 xu2) := hwc 5 _ rfl
                      have g6 : W'.cell? ⟨vb, voff + pre2.length * 7 + 6, none⟩ = some (.int .i64 xo2) := hwc 6 _ rfl
                      have KR2 := Lib.hid (kR2.frozen 0)
                      have KR3 := Lib.hid (kR2.cell 0)
                      have KKf : Hid (W'.frozen? ⟨bK, 0, none⟩ = false) := Blk.frozen ht2.now.1 0
                      have HTF := Lib.hid ht2
                      have HPRE2 := Lib.hid hpre2
                      have HE2 := Lib.hid he0
                      have l64 := hok2.m64
                      have llen := hok2.len
                      have lb0 := hok2.b0
                      have lb1 := hok2.b1
                      have hjd : decide ((Sn.2.length : Int) ≤ (pre2.length : Int)) = false := by simp; omega
                      have hjd' : decide (Sn.2.length ≤ pre2.length) = false := by simp; omega
                      have hj0 : (0 : Int) ≤ (pre2.length : Int) := Int.natCast_nonneg _
                      have hj1 : (pre2.length : Int) < (Sn.2.length : Int) := by omega
                      have hw1 : IntKind.i64.wrap (Sn.1 + 1) = Sn.1 + 1 := IntWalk.i64_in _ (by omega)
                      have hw2 : IntKind.i64.wrap (Sn.1 + 1 + (pre2.length : Int)) = Sn.1 + 1 + (pre2.length : Int) := IntWalk.i64_in _ (by omega)
                      have hw3 : IntKind.i64.wrap ((pre2.length : Int) + 1) = (pre2.length : Int) + 1 := IntWalk.i64_in _ (by omega)
                      clear ht2 hvb2 hpre2 hrl2 he0 hwc hrow kR2 kY2 hv2 HACT2 hact2
                      simp only [List.setIfInBounds_toArray, List.set_cons_zero, List.set_cons_succ, En.cells]
                      by_cases hx2 : (⟨ec2, en2, ek2, em2, et2, eu2, eo2⟩ : En) = ⟨xc2, xn2, xk2, xm2, xt2, xu2, xo2⟩
                      · by_cases hop2 : op2 = Sn.1 + 1 + (pre2.length : Int)
                        · obtain ⟨rfl, rfl, rfl, rfl, rfl, rfl, rfl⟩ := En.mk.inj hx2
                          subst hop2
                          clear hx2
                          gi_wp2_with fail
                          refine wpIn_region_heldR (fun w' => w'.cell? ⟨bK, 0, none⟩ = some (.int .i64 pre2.length) ∧ w'.cell? ⟨w2.heap.size, 0, none⟩ = some (.pointer (some ⟨gy, 0, none⟩)) ∧ w'.cell? ⟨gy, 2, none⟩ = some (.slice (some ⟨vb, voff, none⟩) Sn.2.length cv) ∧ w'.cell? ⟨gy, 1, none⟩ = some (.int .i64 Sn.1) ∧ w'.cell? ⟨Bx2, 0, none⟩ = some (.int .i64 ec2) ∧ w'.cell? ⟨Bx2, 1, none⟩ = some (.int .i64 en2) ∧ w'.cell? ⟨Bx2, 2, none⟩ = some (.int .i64 ek2) ∧ w'.cell? ⟨Bx2, 3, none⟩ = some (.string em2) ∧ w'.cell? ⟨Bx2, 4, none⟩ = some (.string et2) ∧ w'.cell? ⟨Bx2, 5, none⟩ = some (.int .i64 eu2) ∧ w'.cell? ⟨Bx2, 6, none⟩ = some (.int .i64 eo2) ∧ w'.cell? ⟨vb, voff + pre2.length * 7, none⟩ = some (.int .i64 ec2) ∧ w'.cell? ⟨vb, voff + pre2.length * 7 + 1, none⟩ = some (.int .i64 en2) ∧ w'.cell? ⟨vb, voff + pre2.length * 7 + 2, none⟩ = some (.int .i64 ek2) ∧ w'.cell? ⟨vb, voff + pre2.length * 7 + 3, none⟩ = some (.string em2) ∧ w'.cell? ⟨vb, voff + pre2.length * 7 + 4, none⟩ = some (.string et2) ∧ w'.cell? ⟨vb, voff + pre2.length * 7 + 5, none⟩ = some (.int .i64 eu2) ∧ w'.cell? ⟨vb, voff + pre2.length * 7 + 6, none⟩ = some (.int .i64 eo2)) (by kernel_rfl) (by kernel_rfl) (by rintro ⟨_, _, h⟩; exact h) ⟨s0, s1, s2, s3, f0, f1, f2, f3, f4, f5, f6, g0, g1, g2, g3, g4, g5, g6⟩ (fun hHeld => ?_)
                          (refine takeL 0 (v := ?_) rfl (by kernel_rfl) (by kernel_rfl) (by kernel_rfl) (fun _ _ _ h => h) (Or.inl ⟨by rfl, ?_⟩) (by assumption) ?_; rotate_left; (focus (intro w9 hSw; (try dsimp only at hSw); go_simp; try with_reducible rfl)); (try simp only [Act.put, List.setIfInBounds_toArray, List.set_cons_zero, List.set_cons_succ]))
                          (refine takeL 1 (v := ?_) rfl (by kernel_rfl) (by kernel_rfl) (by kernel_rfl) (fun _ _ _ h => h) (Or.inl ⟨by rfl, ?_⟩) (by assumption) ?_; rotate_left; (focus (intro w9 hSw; (try dsimp only at hSw); go_simp; try with_reducible rfl)); (try simp only [Act.put, List.setIfInBounds_toArray, List.set_cons_zero, List.set_cons_succ]))
                          (refine takeL 2 (v := ?_) rfl (by kernel_rfl) (by kernel_rfl) (by kernel_rfl) (fun _ _ _ h => h) (Or.inl ⟨by rfl, ?_⟩) (by assumption) ?_; rotate_left; (focus (intro w9 hSw; (try dsimp only at hSw); go_simp; try with_reducible rfl)); (try simp only [Act.put, List.setIfInBounds_toArray, List.set_cons_zero, List.set_cons_succ]))
                          (refine takeL 3 (v := ?_) rfl (by kernel_rfl) (by kernel_rfl) (by kernel_rfl) (fun _ _ _ h => h) (Or.inl ⟨by rfl, ?_⟩) (by assumption) ?_; rotate_left; (focus (intro w9 hSw; (try dsimp only at hSw); go_simp; try with_reducible rfl)); (try simp only [Act.put, List.setIfInBounds_toArray, List.set_cons_zero, List.set_cons_succ]))
                          (refine takeL 4 (v := ?_) rfl (by kernel_rfl) (by kernel_rfl) (by kernel_rfl) (fun _ _ _ h => h) (Or.inl ⟨by rfl, ?_⟩) (by assumption) ?_; rotate_left; (focus (intro w9 hSw; (try dsimp only at hSw); go_simp; try with_reducible rfl)); (try simp only [Act.put, List.setIfInBounds_toArray, List.set_cons_zero, List.set_cons_succ]))
                          (refine takeL 5 (v := ?_) rfl (by kernel_rfl) (by kernel_rfl) (by kernel_rfl) (fun _ _ _ h => h) (Or.inl ⟨by rfl, ?_⟩) (by assumption) ?_; rotate_left; (focus (intro w9 hSw; (try dsimp only at hSw); go_simp; try with_reducible rfl)); (try simp only [Act.put, List.setIfInBounds_toArray, List.set_cons_zero, List.set_cons_succ]))
                          (refine takeL 6 (v := ?_) rfl (by kernel_rfl) (by kernel_rfl) (by kernel_rfl) (fun _ _ _ h => h) (Or.inl ⟨by rfl, ?_⟩) (by assumption) ?_; rotate_left; (focus (intro w9 hSw; (try dsimp only at hSw); go_simp; try with_reducible rfl)); (try simp only [Act.put, List.setIfInBounds_toArray, List.set_cons_zero, List.set_cons_succ]))
                          (refine takeL 7 (v := ?_) rfl (by kernel_rfl) (by kernel_rfl) (by kernel_rfl) (fun _ _ _ h => h) (Or.inl ⟨by rfl, ?_⟩) (by assumption) ?_; rotate_left; (focus (intro w9 hSw; (try dsimp only at hSw); go_simp; try with_reducible rfl)); (try simp only [Act.put, List.setIfInBounds_toArray, List.set_cons_zero, List.set_cons_succ]))
                          (refine takeL 8 (v := ?_) rfl (by kernel_rfl) (by kernel_rfl) (by kernel_rfl) (fun _ _ _ h => h) (Or.inl ⟨by rfl, ?_⟩) (by assumption) ?_; rotate_left; (focus (intro w9 hSw; (try dsimp only at hSw); go_simp; try with_reducible rfl)); (try simp only [Act.put, List.setIfInBounds_toArray, List.set_cons_zero, List.set_cons_succ]))
                          (refine takeL 9 (v := ?_) rfl (by kernel_rfl) (by kernel_rfl) (by kernel_rfl) (fun _ _ _ h => h) (Or.inl ⟨by rfl, ?_⟩) (by assumption) ?_; rotate_left; (focus (intro w9 hSw; (try dsimp only at hSw); go_simp; try with_reducible rfl)); (try simp only [Act.put, List.setIfInBounds_toArray, List.set_cons_zero, List.set_cons_succ]))
                          (refine takeL 10 (v := ?_) rfl (by kernel_rfl) (by kernel_rfl) (by kernel_rfl) (fun _ _ _ h => h) (Or.inl ⟨by rfl, ?_⟩) (by assumption) ?_; rotate_left; (focus (intro w9 hSw; (try dsimp only at hSw); go_simp; try with_reducible rfl)); (try simp only [Act.put, List.setIfInBounds_toArray, List.set_cons_zero, List.set_cons_succ]))
                          (refine takeL 11 (v := ?_) rfl (by kernel_rfl) (by kernel_rfl) (by kernel_rfl) (fun _ _ _ h => h) (Or.inl ⟨by rfl, ?_⟩) (by assumption) ?_; rotate_left; (focus (intro w9 hSw; (try dsimp only at hSw); go_simp; try with_reducible rfl)); (try simp only [Act.put, List.setIfInBounds_toArray, List.set_cons_zero, List.set_cons_succ]))
                          (refine takeL 12 (v := ?_) rfl (by kernel_rfl) (by kernel_rfl) (by kernel_rfl) (fun _ _ _ h => h) (Or.inl ⟨by rfl, ?_⟩) (by assumption) ?_; rotate_left; (focus (intro w9 hSw; (try dsimp only at hSw); go_simp; try with_reducible rfl)); (try simp only [Act.put, List.setIfInBounds_toArray, List.set_cons_zero, List.set_cons_succ]))
                          (refine takeL 13 (v := ?_) rfl (by kernel_rfl) (by kernel_rfl) (by kernel_rfl) (fun _ _ _ h => h) (Or.inl ⟨by rfl, ?_⟩) (by assumption) ?_; rotate_left; (focus (intro w9 hSw; (try dsimp only at hSw); go_simp; try with_reducible rfl)); (try simp only [Act.put, List.setIfInBounds_toArray, List.set_cons_zero, List.set_cons_succ]))
                          (refine takeL 14 (v := ?_) rfl (by kernel_rfl) (by kernel_rfl) (by kernel_rfl) (fun _ _ _ h => h) (Or.inl ⟨by rfl, ?_⟩) (by assumption) ?_; rotate_left; (focus (intro w9 hSw; (try dsimp only at hSw); go_simp; try with_reducible rfl)); (try simp only [Act.put, List.setIfInBounds_toArray, List.set_cons_zero, List.set_cons_succ]))
                          (refine takeL 15 (v := ?_) rfl (by kernel_rfl) (by kernel_rfl) (by kernel_rfl) (fun _ _ _ h => h) (Or.inl ⟨by rfl, ?_⟩) (by assumption) ?_; rotate_left; (focus (intro w9 hSw; (try dsimp only at hSw); go_simp; try with_reducible rfl)); (try simp only [Act.put, List.setIfInBounds_toArray, List.set_cons_zero, List.set_cons_succ]))
                          (refine takeL 16 (v := ?_) rfl (by kernel_rfl) (by kernel_rfl) (by kernel_rfl) (fun _ _ _ h => h) (Or.inl ⟨by rfl, ?_⟩) (by assumption) ?_; rotate_left; (focus (intro w9 hSw; (try dsimp only at hSw); go_simp; try with_reducible rfl)); (try simp only [Act.put, List.setIfInBounds_toArray, List.set_cons_zero, List.set_cons_succ]))
                          (refine takeL 17 (v := ?_) rfl (by kernel_rfl) (by kernel_rfl) (by kernel_rfl) (fun _ _ _ h => h) (Or.inl ⟨by rfl, ?_⟩) (by assumption) ?_; rotate_left; (focus (intro w9 hSw; (try dsimp only at hSw); go_simp; try with_reducible rfl)); (try simp only [Act.put, List.setIfInBounds_toArray, List.set_cons_zero, List.set_cons_succ]))
                          (refine takeL 18 (v := ?_) rfl (by kernel_rfl) (by kernel_rfl) (by kernel_rfl) (fun _ _ _ h => h) (Or.inl ⟨by rfl, ?_⟩) (by assumption) ?_; rotate_left; (focus (intro w9 hSw; (try dsimp only at hSw); go_simp; try with_reducible rfl)); (try simp only [Act.put, List.setIfInBounds_toArray, List.set_cons_zero, List.set_cons_succ]))
                          (refine takeL 19 (v := ?_) rfl (by kernel_rfl) (by kernel_rfl) (by kernel_rfl) (fun _ _ _ h => h) (Or.inl ⟨by rfl, ?_⟩) (by assumption) ?_; rotate_left; (focus (intro w9 hSw; (try dsimp only at hSw); go_simp; try with_reducible rfl)); (try simp only [Act.put, List.setIfInBounds_toArray, List.set_cons_zero, List.set_cons_succ]))
                          (refine takeL 20 (v := ?_) rfl (by kernel_rfl) (by kernel_rfl) (by kernel_rfl) (fun _ _ _ h => h) (Or.inl ⟨by rfl, ?_⟩) (by assumption) ?_; rotate_left; (focus (intro w9 hSw; (try dsimp only at hSw); go_simp; try with_reducible rfl)); (try simp only [Act.put, List.setIfInBounds_toArray, List.set_cons_zero, List.set_cons_succ]))
                          (refine takeL 21 (v := ?_) rfl (by kernel_rfl) (by kernel_rfl) (by kernel_rfl) (fun _ _ _ h => h) (Or.inl ⟨by rfl, ?_⟩) (by assumption) ?_; rotate_left; (focus (intro w9 hSw; (try dsimp only at hSw); go_simp; try with_reducible rfl)); (try simp only [Act.put, List.setIfInBounds_toArray, List.set_cons_zero, List.set_cons_succ]))
                          (refine takeL 22 (v := ?_) rfl (by kernel_rfl) (by kernel_rfl) (by kernel_rfl) (fun _ _ _ h => h) (Or.inl ⟨by rfl, ?_⟩) (by assumption) ?_; rotate_left; (focus (intro w9 hSw; (try dsimp only at hSw); go_simp; try with_reducible rfl)); (try simp only [Act.put, List.setIfInBounds_toArray, List.set_cons_zero, List.set_cons_succ]))
                          (refine takeL 23 (v := ?_) rfl (by kernel_rfl) (by kernel_rfl) (by kernel_rfl) (fun _ _ _ h => h) (Or.inl ⟨by rfl, ?_⟩) (by assumption) ?_; rotate_left; (focus (intro w9 hSw; (try dsimp only at hSw); go_simp; try with_reducible rfl)); (try simp only [Act.put, List.setIfInBounds_toArray, List.set_cons_zero, List.set_cons_succ]))
                          (refine takeL 24 (v := ?_) rfl (by kernel_rfl) (by kernel_rfl) (by kernel_rfl) (fun _ _ _ h => h) (Or.inl ⟨by rfl, ?_⟩) (by assumption) ?_; rotate_left; (focus (intro w9 hSw; (try dsimp only at hSw); go_simp; try with_reducible rfl)); (try simp only [Act.put, List.setIfInBounds_toArray, List.set_cons_zero, List.set_cons_succ]))
                          (refine takeL 25 (v := ?_) rfl (by kernel_rfl) (by kernel_rfl) (by kernel_rfl) (fun _ _ _ h => h) (Or.inl ⟨by rfl, ?_⟩) (by assumption) ?_; rotate_left; (focus (intro w9 hSw; (try dsimp only at hSw); go_simp; try with_reducible rfl)); (try simp only [Act.put, List.setIfInBounds_toArray, List.set_cons_zero, List.set_cons_succ]))
                          (refine takeL 26 (v := ?_) rfl (by kernel_rfl) (by kernel_rfl) (by kernel_rfl) (fun _ _ _ h => h) (Or.inl ⟨by rfl, ?_⟩) (by assumption) ?_; rotate_left; (focus (intro w9 hSw; (try dsimp only at hSw); go_simp; try with_reducible rfl)); (try simp only [Act.put, List.setIfInBounds_toArray, List.set_cons_zero, List.set_cons_succ]))
                          (refine takeL 27 (v := ?_) rfl (by kernel_rfl) (by kernel_rfl) (by kernel_rfl) (fun _ _ _ h => h) (Or.inl ⟨by rfl, ?_⟩) (by assumption) ?_; rotate_left; (focus (intro w9 hSw; (try dsimp only at hSw); go_simp; try with_reducible rfl)); (try simp only [Act.put, List.setIfInBounds_toArray, List.set_cons_zero, List.set_cons_succ]))
                          (refine takeL 28 (v := ?_) rfl (by kernel_rfl) (by kernel_rfl) (by kernel_rfl) (fun _ _ _ h => h) (Or.inl ⟨by rfl, ?_⟩) (by assumption) ?_; rotate_left; (focus (intro w9 hSw; (try dsimp only at hSw); go_simp; try with_reducible rfl)); (try simp only [Act.put, List.setIfInBounds_toArray, List.set_cons_zero, List.set_cons_succ]))
                          refine wpAnyH_done (by kernel_rfl) ?_ _
                          have q0 : W'.drew.cell? ⟨bK, 0, none⟩ = some (.int .i64 pre2.length) := s0
                          have q1 : W'.drew.frozen? ⟨bK, 0, none⟩ = false := KKf.out
                          clear s0 s1 s2 s3 f0 f1 f2 f3 f4 f5 f6 g0 g1 g2 g3 g4 g5 g6 hHeld hjd hjd' hw1 hw2
                          generalize hWx : W'.drew = Wx at *
                          gi_wp2_with fail
                          subst hWx
                          have hgK : gy ≠ bK := fun e => HT8.out.now.2.2 bK rfl ⟨.y, Or.inl e.symm⟩
                          refine ⟨keeps_drew ((KeepsOthers.setCell _ _ _).from _), kpt_drew (kpt_set hs9 hgK), ?_, ?_, ?_⟩
                          · have hn := upA_next HPRE2.out hlt2
                            rw [show Sn.2.getD pre2.length default = ⟨ec2, en2, ek2, em2, et2, eu2, eo2⟩ from by rw [List.getD_eq_getElem?_getD, HE2.out]; rfl] at hn
                            exact hn
                          · exact Nat.le_trans hsz2 (by simp [World.setCell])
                          · have h9 := (HTF.out.drew).put0 0 (.int .i64 ((pre2.length : Int) + 1))
                            rw [List.length_append, List.length_singleton]
                            exact h9
                        · obtain ⟨rfl, rfl, rfl, rfl, rfl, rfl, rfl⟩ := En.mk.inj hx2
                          clear hx2
                          gi_wp2_with fail
                          refine wpIn_region_heldR (fun w' => w'.cell? ⟨bK, 0, none⟩ = some (.int .i64 pre2.length) ∧ w'.cell? ⟨w2.heap.size, 0, none⟩ = some (.pointer (some ⟨gy, 0, none⟩)) ∧ w'.cell? ⟨gy, 2, none⟩ = some (.slice (some ⟨vb, voff, none⟩) Sn.2.length cv) ∧ w'.cell? ⟨gy, 1, none⟩ = some (.int .i64 Sn.1) ∧ w'.cell? ⟨Bx2, 0, none⟩ = some (.int .i64 ec2) ∧ w'.cell? ⟨Bx2, 1, none⟩ = some (.int .i64 en2) ∧ w'.cell? ⟨Bx2, 2, none⟩ = some (.int .i64 ek2) ∧ w'.cell? ⟨Bx2, 3, none⟩ = some (.string em2) ∧ w'.cell? ⟨Bx2, 4, none⟩ = some (.string et2) ∧ w'.cell? ⟨Bx2, 5, none⟩ = some (.int .i64 eu2) ∧ w'.cell? ⟨Bx2, 6, none⟩ = some (.int .i64 eo2) ∧ w'.cell? ⟨vb, voff + pre2.length * 7, none⟩ = some (.int .i64 ec2) ∧ w'.cell? ⟨vb, voff + pre2.length * 7 + 1, none⟩ = some (.int .i64 en2) ∧ w'.cell? ⟨vb, voff + pre2.length * 7 + 2, none⟩ = some (.int .i64 ek2) ∧ w'.cell? ⟨vb, voff + pre2.length * 7 + 3, none⟩ = some (.string em2) ∧ w'.cell? ⟨vb, voff + pre2.length * 7 + 4, none⟩ = some (.string et2) ∧ w'.cell? ⟨vb, voff + pre2.length * 7 + 5, none⟩ = some (.int .i64 eu2) ∧ w'.cell? ⟨vb, voff + pre2.length * 7 + 6, none⟩ = some (.int .i64 eo2)) (by kernel_rfl) (by kernel_rfl) (by rintro ⟨_, _, h⟩; exact h) ⟨s0, s1, s2, s3, f0, f1, f2, f3, f4, f5, f6, g0, g1, g2, g3, g4, g5, g6⟩ (fun hHeld => ?_)
                          (refine takeL 0 (v := ?_) rfl (by kernel_rfl) (by kernel_rfl) (by kernel_rfl) (fun _ _ _ h => h) (Or.inl ⟨by rfl, ?_⟩) (by assumption) ?_; rotate_left; (focus (intro w9 hSw; (try dsimp only at hSw); go_simp; try with_reducible rfl)); (try simp only [Act.put, List.setIfInBounds_toArray, List.set_cons_zero, List.set_cons_succ]))
                          (refine takeL 1 (v := ?_) rfl (by kernel_rfl) (by kernel_rfl) (by kernel_rfl) (fun _ _ _ h => h) (Or.inl ⟨by rfl, ?_⟩) (by assumption) ?_; rotate_left; (focus (intro w9 hSw; (try dsimp only at hSw); go_simp; try with_reducible rfl)); (try simp only [Act.put, List.setIfInBounds_toArray, List.set_cons_zero, List.set_cons_succ]))
                          (refine takeL 2 (v := ?_) rfl (by kernel_rfl) (by kernel_rfl) (by kernel_rfl) (fun _ _ _ h => h) (Or.inl ⟨by rfl, ?_⟩) (by assumption) ?_; rotate_left; (focus (intro w9 hSw; (try dsimp only at hSw); go_simp; try with_reducible rfl)); (try simp only [Act.put, List.setIfInBounds_toArray, List.set_cons_zero, List.set_cons_succ]))
                          (refine takeL 3 (v := ?_) rfl (by kernel_rfl) (by kernel_rfl) (by kernel_rfl) (fun _ _ _ h => h) (Or.inl ⟨by rfl, ?_⟩) (by assumption) ?_; rotate_left; (focus (intro w9 hSw; (try dsimp only at hSw); go_simp; try with_reducible rfl)); (try simp only [Act.put, List.setIfInBounds_toArray, List.set_cons_zero, List.set_cons_succ]))
                          (refine takeL 4 (v := ?_) rfl (by kernel_rfl) (by kernel_rfl) (by kernel_rfl) (fun _ _ _ h => h) (Or.inl ⟨by rfl, ?_⟩) (by assumption) ?_; rotate_left; (focus (intro w9 hSw; (try dsimp only at hSw); go_simp; try with_reducible rfl)); (try simp only [Act.put, List.setIfInBounds_toArray, List.set_cons_zero, List.set_cons_succ]))
                          (refine takeL 5 (v := ?_) rfl (by kernel_rfl) (by kernel_rfl) (by kernel_rfl) (fun _ _ _ h => h) (Or.inl ⟨by rfl, ?_⟩) (by assumption) ?_; rotate_left; (focus (intro w9 hSw; (try dsimp only at hSw); go_simp; try with_reducible rfl)); (try simp only [Act.put, List.setIfInBounds_toArray, List.set_cons_zero, List.set_cons_succ]))
                          (refine takeL 6 (v := ?_) rfl (by kernel_rfl) (by kernel_rfl) (by kernel_rfl) (fun _ _ _ h => h) (Or.inl ⟨by rfl, ?_⟩) (by assumption) ?_; rotate_left; (focus (intro w9 hSw; (try dsimp only at hSw); go_simp; try with_reducible rfl)); (try simp only [Act.put, List.setIfInBounds_toArray, List.set_cons_zero, List.set_cons_succ]))
                          (refine takeL 7 (v := ?_) rfl (by kernel_rfl) (by kernel_rfl) (by kernel_rfl) (fun _ _ _ h => h) (Or.inl ⟨by rfl, ?_⟩) (by assumption) ?_; rotate_left; (focus (intro w9 hSw; (try dsimp only at hSw); go_simp; try with_reducible rfl)); (try simp only [Act.put, List.setIfInBounds_toArray, List.set_cons_zero, List.set_cons_succ]))
                          (refine takeL 8 (v := ?_) rfl (by kernel_rfl) (by kernel_rfl) (by kernel_rfl) (fun _ _ _ h => h) (Or.inl ⟨by rfl, ?_⟩) (by assumption) ?_; rotate_left; (focus (intro w9 hSw; (try dsimp only at hSw); go_simp; try with_reducible rfl)); (try simp only [Act.put, List.setIfInBounds_toArray, List.set_cons_zero, List.set_cons_succ]))
                          (refine takeL 9 (v := ?_) rfl (by kernel_rfl) (by kernel_rfl) (by kernel_rfl) (fun _ _ _ h => h) (Or.inl ⟨by rfl, ?_⟩) (by assumption) ?_; rotate_left; (focus (intro w9 hSw; (try dsimp only at hSw); go_simp; try with_reducible rfl)); (try simp only [Act.put, List.setIfInBounds_toArray, List.set_cons_zero, List.set_cons_succ]))
                          (refine takeL 10 (v := ?_) rfl (by kernel_rfl) (by kernel_rfl) (by kernel_rfl) (fun _ _ _ h => h) (Or.inl ⟨by rfl, ?_⟩) (by assumption) ?_; rotate_left; (focus (intro w9 hSw; (try dsimp only at hSw); go_simp; try with_reducible rfl)); (try simp only [Act.put, List.setIfInBounds_toArray, List.set_cons_zero, List.set_cons_succ]))
                          (refine takeL 11 (v := ?_) rfl (by kernel_rfl) (by kernel_rfl) (by kernel_rfl) (fun _ _ _ h => h) (Or.inl ⟨by rfl, ?_⟩) (by assumption) ?_; rotate_left; (focus (intro w9 hSw; (try dsimp only at hSw); go_simp; try with_reducible rfl)); (try simp only [Act.put, List.setIfInBounds_toArray, List.set_cons_zero, List.set_cons_succ]))
                          (refine takeL 12 (v := ?_) rfl (by kernel_rfl) (by kernel_rfl) (by kernel_rfl) (fun _ _ _ h => h) (Or.inl ⟨by rfl, ?_⟩) (by assumption) ?_; rotate_left; (focus (intro w9 hSw; (try dsimp only at hSw); go_simp; try with_reducible rfl)); (try simp only [Act.put, List.setIfInBounds_toArray, List.set_cons_zero, List.set_cons_succ]))
                          (refine takeL 13 (v := ?_) rfl (by kernel_rfl) (by kernel_rfl) (by kernel_rfl) (fun _ _ _ h => h) (Or.inl ⟨by rfl, ?_⟩) (by assumption) ?_; rotate_left; (focus (intro w9 hSw; (try dsimp only at hSw); go_simp; try with_reducible rfl)); (try simp only [Act.put, List.setIfInBounds_toArray, List.set_cons_zero, List.set_cons_succ]))
                          (refine takeL 14 (v := ?_) rfl (by kernel_rfl) (by kernel_rfl) (by kernel_rfl) (fun _ _ _ h => h) (Or.inl ⟨by rfl, ?_⟩) (by assumption) ?_; rotate_left; (focus (intro w9 hSw; (try dsimp only at hSw); go_simp; try with_reducible rfl)); (try simp only [Act.put, List.setIfInBounds_toArray, List.set_cons_zero, List.set_cons_succ]))
                          (refine takeL 15 (v := ?_) rfl (by kernel_rfl) (by kernel_rfl) (by kernel_rfl) (fun _ _ _ h => h) (Or.inl ⟨by rfl, ?_⟩) (by assumption) ?_; rotate_left; (focus (intro w9 hSw; (try dsimp only at hSw); go_simp; try with_reducible rfl)); (try simp only [Act.put, List.setIfInBounds_toArray, List.set_cons_zero, List.set_cons_succ]))
                          (refine takeL 16 (v := ?_) rfl (by kernel_rfl) (by kernel_rfl) (by kernel_rfl) (fun _ _ _ h => h) (Or.inl ⟨by rfl, ?_⟩) (by assumption) ?_; rotate_left; (focus (intro w9 hSw; (try dsimp only at hSw); go_simp; try with_reducible rfl)); (try simp only [Act.put, List.setIfInBounds_toArray, List.set_cons_zero, List.set_cons_succ]))
                          (refine takeL 17 (v := ?_) rfl (by kernel_rfl) (by kernel_rfl) (by kernel_rfl) (fun _ _ _ h => h) (Or.inl ⟨by rfl, ?_⟩) (by assumption) ?_; rotate_left; (focus (intro w9 hSw; (try dsimp only at hSw); go_simp; try with_reducible rfl)); (try simp only [Act.put, List.setIfInBounds_toArray, List.set_cons_zero, List.set_cons_succ]))
                          (refine takeL 18 (v := ?_) rfl (by kernel_rfl) (by kernel_rfl) (by kernel_rfl) (fun _ _ _ h => h) (Or.inl ⟨by rfl, ?_⟩) (by assumption) ?_; rotate_left; (focus (intro w9 hSw; (try dsimp only at hSw); go_simp; try with_reducible rfl)); (try simp only [Act.put, List.setIfInBounds_toArray, List.set_cons_zero, List.set_cons_succ]))
                          (refine takeL 19 (v := ?_) rfl (by kernel_rfl) (by kernel_rfl) (by kernel_rfl) (fun _ _ _ h => h) (Or.inl ⟨by rfl, ?_⟩) (by assumption) ?_; rotate_left; (focus (intro w9 hSw; (try dsimp only at hSw); go_simp; try with_reducible rfl)); (try simp only [Act.put, List.setIfInBounds_toArray, List.set_cons_zero, List.set_cons_succ]))
                          (refine takeL 20 (v := ?_) rfl (by kernel_rfl) (by kernel_rfl) (by kernel_rfl) (fun _ _ _ h => h) (Or.inl ⟨by rfl, ?_⟩) (by assumption) ?_; rotate_left; (focus (intro w9 hSw; (try dsimp only at hSw); go_simp; try with_reducible rfl)); (try simp only [Act.put, List.setIfInBounds_toArray, List.set_cons_zero, List.set_cons_succ]))
                          (refine takeL 21 (v := ?_) rfl (by kernel_rfl) (by kernel_rfl) (by kernel_rfl) (fun _ _ _ h => h) (Or.inl ⟨by rfl, ?_⟩) (by assumption) ?_; rotate_left; (focus (intro w9 hSw; (try dsimp only at hSw); go_simp; try with_reducible rfl)); (try simp only [Act.put, List.setIfInBounds_toArray, List.set_cons_zero, List.set_cons_succ]))
                          (refine takeL 22 (v := ?_) rfl (by kernel_rfl) (by kernel_rfl) (by kernel_rfl) (fun _ _ _ h => h) (Or.inl ⟨by rfl, ?_⟩) (by assumption) ?_; rotate_left; (focus (intro w9 hSw; (try dsimp only at hSw); go_simp; try with_reducible rfl)); (try simp only [Act.put, List.setIfInBounds_toArray, List.set_cons_zero, List.set_cons_succ]))
                          (refine takeL 23 (v := ?_) rfl (by kernel_rfl) (by kernel_rfl) (by kernel_rfl) (fun _ _ _ h => h) (Or.inl ⟨by rfl, ?_⟩) (by assumption) ?_; rotate_left; (focus (intro w9 hSw; (try dsimp only at hSw); go_simp; try with_reducible rfl)); (try simp only [Act.put, List.setIfInBounds_toArray, List.set_cons_zero, List.set_cons_succ]))
                          (refine takeL 24 (v := ?_) rfl (by kernel_rfl) (by kernel_rfl) (by kernel_rfl) (fun _ _ _ h => h) (Or.inl ⟨by rfl, ?_⟩) (by assumption) ?_; rotate_left; (focus (intro w9 hSw; (try dsimp only at hSw); go_simp; try with_reducible rfl)); (try simp only [Act.put, List.setIfInBounds_toArray, List.set_cons_zero, List.set_cons_succ]))
                          (refine takeL 25 (v := ?_) rfl (by kernel_rfl) (by kernel_rfl) (by kernel_rfl) (fun _ _ _ h => h) (Or.inl ⟨by rfl, ?_⟩) (by assumption) ?_; rotate_left; (focus (intro w9 hSw; (try dsimp only at hSw); go_simp; try with_reducible rfl)); (try simp only [Act.put, List.setIfInBounds_toArray, List.set_cons_zero, List.set_cons_succ]))
                          (refine takeL 26 (v := ?_) rfl (by kernel_rfl) (by kernel_rfl) (by kernel_rfl) (fun _ _ _ h => h) (Or.inl ⟨by rfl, ?_⟩) (by assumption) ?_; rotate_left; (focus (intro w9 hSw; (try dsimp only at hSw); go_simp; try with_reducible rfl)); (try simp only [Act.put, List.setIfInBounds_toArray, List.set_cons_zero, List.set_cons_succ]))
                          (refine takeL 27 (v := ?_) rfl (by kernel_rfl) (by kernel_rfl) (by kernel_rfl) (fun _ _ _ h => h) (Or.inl ⟨by rfl, ?_⟩) (by assumption) ?_; rotate_left; (focus (intro w9 hSw; (try dsimp only at hSw); go_simp; try with_reducible rfl)); (try simp only [Act.put, List.setIfInBounds_toArray, List.set_cons_zero, List.set_cons_succ]))
                          (refine takeL 28 (v := ?_) rfl (by kernel_rfl) (by kernel_rfl) (by kernel_rfl) (fun _ _ _ h => h) (Or.inl ⟨by rfl, ?_⟩) (by assumption) ?_; rotate_left; (focus (intro w9 hSw; (try dsimp only at hSw); go_simp; try with_reducible rfl)); (try simp only [Act.put, List.setIfInBounds_toArray, List.set_cons_zero, List.set_cons_succ]))
                          refine wpAnyH_done (by kernel_rfl) ?_ _
                          have cRf : W'.drew.frozen? ⟨w.heap.size + 1, 0, none⟩ = false := KR2.out
                          have cRc : W'.drew.cell? ⟨w.heap.size + 1, 0, none⟩ = some (.bool false) := KR3.out
                          generalize hWx : W'.drew = Wx at *
                          gi_wp2_with fail
                          subst hWx
                          exact ⟨keeps_drew ((KeepsOthers.setCell _ _ _).from _), rfl, upA_off hlt2 (by
                            rw [show Sn.2.getD pre2.length default = ⟨ec2, en2, ek2, em2, et2, eu2, eo2⟩ from by rw [List.getD_eq_getElem?_getD, HE2.out]; rfl]
                            intro e
                            obtain ⟨e1, e2⟩ := Prod.mk.inj e
                            first | exact hx2 e2 | exact hop2 e1)⟩
                      · have hxf := en_form hx2
                        gi_wp2_with fail
                        refine wpIn_region_heldR (fun w' => w'.cell? ⟨bK, 0, none⟩ = some (.int .i64 pre2.length) ∧ w'.cell? ⟨w2.heap.size, 0, none⟩ = some (.pointer (some ⟨gy, 0, none⟩)) ∧ w'.cell? ⟨gy, 2, none⟩ = some (.slice (some ⟨vb, voff, none⟩) Sn.2.length cv) ∧ w'.cell? ⟨gy, 1, none⟩ = some (.int .i64 Sn.1) ∧ w'.cell? ⟨Bx2, 0, none⟩ = some (.int .i64 ec2) ∧ w'.cell? ⟨Bx2, 1, none⟩ = some (.int .i64 en2) ∧ w'.cell? ⟨Bx2, 2, none⟩ = some (.int .i64 ek2) ∧ w'.cell? ⟨Bx2, 3, none⟩ = some (.string em2) ∧ w'.cell? ⟨Bx2, 4, none⟩ = some (.string et2) ∧ w'.cell? ⟨Bx2, 5, none⟩ = some (.int .i64 eu2) ∧ w'.cell? ⟨Bx2, 6, none⟩ = some (.int .i64 eo2) ∧ w'.cell? ⟨vb, voff + pre2.length * 7, none⟩ = some (.int .i64 xc2) ∧ w'.cell? ⟨vb, voff + pre2.length * 7 + 1, none⟩ = some (.int .i64 xn2) ∧ w'.cell? ⟨vb, voff + pre2.length * 7 + 2, none⟩ = some (.int .i64 xk2) ∧ w'.cell? ⟨vb, voff + pre2.length * 7 + 3, none⟩ = some (.string xm2) ∧ w'.cell? ⟨vb, voff + pre2.length * 7 + 4, none⟩ = some (.string xt2) ∧ w'.cell? ⟨vb, voff + pre2.length * 7 + 5, none⟩ = some (.int .i64 xu2) ∧ w'.cell? ⟨vb, voff + pre2.length * 7 + 6, none⟩ = some (.int .i64 xo2)) (by kernel_rfl) (by kernel_rfl) (by rintro ⟨_, _, h⟩; exact h) ⟨s0, s1, s2, s3, f0, f1, f2, f3, f4, f5, f6, g0, g1, g2, g3, g4, g5, g6⟩ (fun hHeld => ?_)
                        (refine takeL 0 (v := ?_) rfl (by kernel_rfl) (by kernel_rfl) (by kernel_rfl) (fun _ _ _ h => h) (Or.inl ⟨by rfl, ?_⟩) (by assumption) ?_; rotate_left; (focus (intro w9 hSw; (try dsimp only at hSw); go_simp; try with_reducible rfl)); (try simp only [Act.put, List.setIfInBounds_toArray, List.set_cons_zero, List.set_cons_succ]))
                        (refine takeL 1 (v := ?_) rfl (by kernel_rfl) (by kernel_rfl) (by kernel_rfl) (fun _ _ _ h => h) (Or.inl ⟨by rfl, ?_⟩) (by assumption) ?_; rotate_left; (focus (intro w9 hSw; (try dsimp only at hSw); go_simp; try with_reducible rfl)); (try simp only [Act.put, List.setIfInBounds_toArray, List.set_cons_zero, List.set_cons_succ]))
                        (refine takeL 2 (v := ?_) rfl (by kernel_rfl) (by kernel_rfl) (by kernel_rfl) (fun _ _ _ h => h) (Or.inl ⟨by rfl, ?_⟩) (by assumption) ?_; rotate_left; (focus (intro w9 hSw; (try dsimp only at hSw); go_simp; try with_reducible rfl)); (try simp only [Act.put, List.setIfInBounds_toArray, List.set_cons_zero, List.set_cons_succ]))
                        (refine takeL 3 (v := ?_) rfl (by kernel_rfl) (by kernel_rfl) (by kernel_rfl) (fun _ _ _ h => h) (Or.inl ⟨by rfl, ?_⟩) (by assumption) ?_; rotate_left; (focus (intro w9 hSw; (try dsimp only at hSw); go_simp; try with_reducible rfl)); (try simp only [Act.put, List.setIfInBounds_toArray, List.set_cons_zero, List.set_cons_succ]))
                        (refine takeL 4 (v := ?_) rfl (by kernel_rfl) (by kernel_rfl) (by kernel_rfl) (fun _ _ _ h => h) (Or.inl ⟨by rfl, ?_⟩) (by assumption) ?_; rotate_left; (focus (intro w9 hSw; (try dsimp only at hSw); go_simp; try with_reducible rfl)); (try simp only [Act.put, List.setIfInBounds_toArray, List.set_cons_zero, List.set_cons_succ]))
                        (refine takeL 5 (v := ?_) rfl (by kernel_rfl) (by kernel_rfl) (by kernel_rfl) (fun _ _ _ h => h) (Or.inl ⟨by rfl, ?_⟩) (by assumption) ?_; rotate_left; (focus (intro w9 hSw; (try dsimp only at hSw); go_simp; try with_reducible rfl)); (try simp only [Act.put, List.setIfInBounds_toArray, List.set_cons_zero, List.set_cons_succ]))
                        (refine takeL 6 (v := ?_) rfl (by kernel_rfl) (by kernel_rfl) (by kernel_rfl) (fun _ _ _ h => h) (Or.inl ⟨by rfl, ?_⟩) (by assumption) ?_; rotate_left; (focus (intro w9 hSw; (try dsimp only at hSw); go_simp; try with_reducible rfl)); (try simp only [Act.put, List.setIfInBounds_toArray, List.set_cons_zero, List.set_cons_succ]))
                        (refine takeL 7 (v := ?_) rfl (by kernel_rfl) (by kernel_rfl) (by kernel_rfl) (fun _ _ _ h => h) (Or.inl ⟨by rfl, ?_⟩) (by assumption) ?_; rotate_left; (focus (intro w9 hSw; (try dsimp only at hSw); go_simp; try with_reducible rfl)); (try simp only [Act.put, List.setIfInBounds_toArray, List.set_cons_zero, List.set_cons_succ]))
                        (refine takeL 8 (v := ?_) rfl (by kernel_rfl) (by kernel_rfl) (by kernel_rfl) (fun _ _ _ h => h) (Or.inl ⟨by rfl, ?_⟩) (by assumption) ?_; rotate_left; (focus (intro w9 hSw; (try dsimp only at hSw); go_simp; try with_reducible rfl)); (try simp only [Act.put, List.setIfInBounds_toArray, List.set_cons_zero, List.set_cons_succ]))
                        (refine takeL 9 (v := ?_) rfl (by kernel_rfl) (by kernel_rfl) (by kernel_rfl) (fun _ _ _ h => h) (Or.inl ⟨by rfl, ?_⟩) (by assumption) ?_; rotate_left; (focus (intro w9 hSw; (try dsimp only at hSw); go_simp; try with_reducible rfl)); (try simp only [Act.put, List.setIfInBounds_toArray, List.set_cons_zero, List.set_cons_succ]))
                        (refine takeL 10 (v := ?_) rfl (by kernel_rfl) (by kernel_rfl) (by kernel_rfl) (fun _ _ _ h => h) (Or.inl ⟨by rfl, ?_⟩) (by assumption) ?_; rotate_left; (focus (intro w9 hSw; (try dsimp only at hSw); go_simp; try with_reducible rfl)); (try simp only [Act.put, List.setIfInBounds_toArray, List.set_cons_zero, List.set_cons_succ]))
                        (refine takeL 11 (v := ?_) rfl (by kernel_rfl) (by kernel_rfl) (by kernel_rfl) (fun _ _ _ h => h) (Or.inl ⟨by rfl, ?_⟩) (by assumption) ?_; rotate_left; (focus (intro w9 hSw; (try dsimp only at hSw); go_simp; try with_reducible rfl)); (try simp only [Act.put, List.setIfInBounds_toArray, List.set_cons_zero, List.set_cons_succ]))
                        (refine takeL 12 (v := ?_) rfl (by kernel_rfl) (by kernel_rfl) (by kernel_rfl) (fun _ _ _ h => h) (Or.inl ⟨by rfl, ?_⟩) (by assumption) ?_; rotate_left; (focus (intro w9 hSw; (try dsimp only at hSw); go_simp; try with_reducible rfl)); (try simp only [Act.put, List.setIfInBounds_toArray, List.set_cons_zero, List.set_cons_succ]))
                        (refine takeL 13 (v := ?_) rfl (by kernel_rfl) (by kernel_rfl) (by kernel_rfl) (fun _ _ _ h => h) (Or.inl ⟨by rfl, ?_⟩) (by assumption) ?_; rotate_left; (focus (intro w9 hSw; (try dsimp only at hSw); go_simp; try with_reducible rfl)); (try simp only [Act.put, List.setIfInBounds_toArray, List.set_cons_zero, List.set_cons_succ]))
                        (refine takeL 14 (v := ?_) rfl (by kernel_rfl) (by kernel_rfl) (by kernel_rfl) (fun _ _ _ h => h) (Or.inl ⟨by rfl, ?_⟩) (by assumption) ?_; rotate_left; (focus (intro w9 hSw; (try dsimp only at hSw); go_simp; try with_reducible rfl)); (try simp only [Act.put, List.setIfInBounds_toArray, List.set_cons_zero, List.set_cons_succ]))
                        (refine takeL 15 (v := ?_) rfl (by kernel_rfl) (by kernel_rfl) (by kernel_rfl) (fun _ _ _ h => h) (Or.inl ⟨by rfl, ?_⟩) (by assumption) ?_; rotate_left; (focus (intro w9 hSw; (try dsimp only at hSw); go_simp; try with_reducible rfl)); (try simp only [Act.put, List.setIfInBounds_toArray, List.set_cons_zero, List.set_cons_succ]))
                        (refine takeL 16 (v := .bool true) rfl (by kernel_rfl) (by kernel_rfl) (by kernel_rfl) (fun _ _ _ h => h) (Or.inl ⟨by rfl, ?_⟩) (by assumption) ?_; (focus (intro w9 hSw; (try dsimp only at hSw); go_simp; exact hxf)); (try simp only [Act.put, List.setIfInBounds_toArray, List.set_cons_zero, List.set_cons_succ]))
                        (refine takeL 17 (v := ?_) rfl (by kernel_rfl) (by kernel_rfl) (by kernel_rfl) (fun _ _ _ h => h) (Or.inl ⟨by rfl, ?_⟩) (by assumption) ?_; rotate_left; (focus (intro w9 hSw; (try dsimp only at hSw); go_simp; try with_reducible rfl)); (try simp only [Act.put, List.setIfInBounds_toArray, List.set_cons_zero, List.set_cons_succ]))
                        (refine takeL 18 (v := ?_) rfl (by kernel_rfl) (by kernel_rfl) (by kernel_rfl) (fun _ _ _ h => h) (Or.inl ⟨by rfl, ?_⟩) (by assumption) ?_; rotate_left; (focus (intro w9 hSw; (try dsimp only at hSw); go_simp; try with_reducible rfl)); (try simp only [Act.put, List.setIfInBounds_toArray, List.set_cons_zero, List.set_cons_succ]))
                        (refine takeL 19 (v := undef) rfl (by kernel_rfl) (by kernel_rfl) (by kernel_rfl) (fun _ _ _ h => h) (Or.inr ⟨by rfl, rfl⟩) (by assumption) ?_; (try simp only [Act.put, List.setIfInBounds_toArray, List.set_cons_zero, List.set_cons_succ]))
                        (refine takeL 20 (v := undef) rfl (by kernel_rfl) (by kernel_rfl) (by kernel_rfl) (fun _ _ _ h => h) (Or.inr ⟨by rfl, rfl⟩) (by assumption) ?_; (try simp only [Act.put, List.setIfInBounds_toArray, List.set_cons_zero, List.set_cons_succ]))
                        (refine takeL 21 (v := undef) rfl (by kernel_rfl) (by kernel_rfl) (by kernel_rfl) (fun _ _ _ h => h) (Or.inr ⟨by rfl, rfl⟩) (by assumption) ?_; (try simp only [Act.put, List.setIfInBounds_toArray, List.set_cons_zero, List.set_cons_succ]))
                        (refine takeL 22 (v := undef) rfl (by kernel_rfl) (by kernel_rfl) (by kernel_rfl) (fun _ _ _ h => h) (Or.inr ⟨by rfl, rfl⟩) (by assumption) ?_; (try simp only [Act.put, List.setIfInBounds_toArray, List.set_cons_zero, List.set_cons_succ]))
                        (refine takeL 23 (v := undef) rfl (by kernel_rfl) (by kernel_rfl) (by kernel_rfl) (fun _ _ _ h => h) (Or.inr ⟨by rfl, rfl⟩) (by assumption) ?_; (try simp only [Act.put, List.setIfInBounds_toArray, List.set_cons_zero, List.set_cons_succ]))
                        (refine takeL 24 (v := undef) rfl (by kernel_rfl) (by kernel_rfl) (by kernel_rfl) (fun _ _ _ h => h) (Or.inr ⟨by rfl, rfl⟩) (by assumption) ?_; (try simp only [Act.put, List.setIfInBounds_toArray, List.set_cons_zero, List.set_cons_succ]))
                        (refine takeL 25 (v := undef) rfl (by kernel_rfl) (by kernel_rfl) (by kernel_rfl) (fun _ _ _ h => h) (Or.inr ⟨by rfl, rfl⟩) (by assumption) ?_; (try simp only [Act.put, List.setIfInBounds_toArray, List.set_cons_zero, List.set_cons_succ]))
                        (refine takeL 26 (v := undef) rfl (by kernel_rfl) (by kernel_rfl) (by kernel_rfl) (fun _ _ _ h => h) (Or.inr ⟨by rfl, rfl⟩) (by assumption) ?_; (try simp only [Act.put, List.setIfInBounds_toArray, List.set_cons_zero, List.set_cons_succ]))
                        (refine takeL 27 (v := undef) rfl (by kernel_rfl) (by kernel_rfl) (by kernel_rfl) (fun _ _ _ h => h) (Or.inr ⟨by rfl, rfl⟩) (by assumption) ?_; (try simp only [Act.put, List.setIfInBounds_toArray, List.set_cons_zero, List.set_cons_succ]))
                        (refine takeL 28 (v := ?_) rfl (by kernel_rfl) (by kernel_rfl) (by kernel_rfl) (fun _ _ _ h => h) (Or.inl ⟨by rfl, ?_⟩) (by assumption) ?_; rotate_left; (focus (intro w9 hSw; (try dsimp only at hSw); go_simp; try with_reducible rfl)); (try simp only [Act.put, List.setIfInBounds_toArray, List.set_cons_zero, List.set_cons_succ]))
                        refine wpAnyH_done (by kernel_rfl) ?_ _
                        have cRf : W'.drew.frozen? ⟨w.heap.size + 1, 0, none⟩ = false := KR2.out
                        have cRc : W'.drew.cell? ⟨w.heap.size + 1, 0, none⟩ = some (.bool false) := KR3.out
                        generalize hWx : W'.drew = Wx at *
                        gi_wp2_with fail
                        subst hWx
                        exact ⟨keeps_drew ((KeepsOthers.setCell _ _ _).from _), rfl, upA_off hlt2 (by
                          rw [show Sn.2.getD pre2.length default = ⟨xc2, xn2, xk2, xm2, xt2, xu2, xo2⟩ from by rw [List.getD_eq_getElem?_getD, HE2.out]; rfl]
                          intro e
                          obtain ⟨e1, e2⟩ := Prod.mk.inj e
                          first | exact hx2 e2 | exact hop2 e1)⟩
                    case done2 =>
                      rintro xs W' hS ⟨hpre2, hsz2, ht2⟩
                      have hsub := HACT2.out
                      subst hsub
                      have hlx : xs.length = Sn.2.length := by rw [hS, upA_len]
                      obtain ⟨-, -, -, kY2, -, -, -, kI2, -, -⟩ := boxes HR0.out HR1.out HRD.out.2.2 ht2.now.2.1
                      obtain ⟨Av, cv, hv2⟩ := rO_slice (fO_hy ht2.now.2.1)
                      have d0 : W'.cell? ⟨bK, 0, none⟩ = some (.int .i64 Sn.2.length) := by have := Blk.cell ht2.now.1 0; rw [hlx] at this; exact this
                      have d1 : W'.cell? ⟨w2.heap.size, 0, none⟩ = some (.pointer (some ⟨gy, 0, none⟩)) := kY2.cell 0
                      have d2 : W'.cell? ⟨gy, 2, none⟩ = some (.slice Av Sn.2.length cv) := by rw [← hv2]; exact (rO_cells (fO_hy ht2.now.2.1)).2.2
                      have e1 : W'.drew.cell? ⟨bI, 0, none⟩ = some (.int .i64 pre.length) := kI2.cell 0
                      have e2 : W'.drew.frozen? ⟨bI, 0, none⟩ = false := kI2.frozen 0
                      have HTF := Lib.hid ht2.dropL
                      have hwi : IntKind.i64.wrap ((pre.length : Int) + 1) = (pre.length : Int) + 1 := IntWalk.i64_in _ (by omega)
                      clear ht2 kY2 kI2 hv2 hact2 HACT2 hpre2 hS
                      gi_wp2_with fail
                      refine wpIn_region_heldR (fun w' => w'.cell? ⟨bK, 0, none⟩ = some (.int .i64 Sn.2.length) ∧ w'.cell? ⟨w2.heap.size, 0, none⟩ = some (.pointer (some ⟨gy, 0, none⟩)) ∧ w'.cell? ⟨gy, 2, none⟩ = some (.slice Av Sn.2.length cv)) (by kernel_rfl) (by kernel_rfl) (by rintro ⟨_, _, h⟩; exact h) ⟨d0, d1, d2⟩ (fun hHeld => ?_)
                      (refine takeL 0 (v := ?_) rfl (by kernel_rfl) (by kernel_rfl) (by kernel_rfl) (fun _ _ _ h => h) (Or.inl ⟨by rfl, ?_⟩) (by assumption) ?_; rotate_left; (focus (intro w9 hSw; (try dsimp only at hSw); go_simp; try with_reducible rfl)); (try simp only [Act.put, List.setIfInBounds_toArray, List.set_cons_zero, List.set_cons_succ]))
                      (refine takeL 1 (v := ?_) rfl (by kernel_rfl) (by kernel_rfl) (by kernel_rfl) (fun _ _ _ h => h) (Or.inl ⟨by rfl, ?_⟩) (by assumption) ?_; rotate_left; (focus (intro w9 hSw; (try dsimp only at hSw); go_simp; try with_reducible rfl)); (try simp only [Act.put, List.setIfInBounds_toArray, List.set_cons_zero, List.set_cons_succ]))
                      (refine takeL 2 (v := ?_) rfl (by kernel_rfl) (by kernel_rfl) (by kernel_rfl) (fun _ _ _ h => h) (Or.inl ⟨by rfl, ?_⟩) (by assumption) ?_; rotate_left; (focus (intro w9 hSw; (try dsimp only at hSw); go_simp; try with_reducible rfl)); (try simp only [Act.put, List.setIfInBounds_toArray, List.set_cons_zero, List.set_cons_succ]))
                      (refine takeL 3 (v := ?_) rfl (by kernel_rfl) (by kernel_rfl) (by kernel_rfl) (fun _ _ _ h => h) (Or.inl ⟨by rfl, ?_⟩) (by assumption) ?_; rotate_left; (focus (intro w9 hSw; (try dsimp only at hSw); go_simp; try with_reducible rfl)); (try simp only [Act.put, List.setIfInBounds_toArray, List.set_cons_zero, List.set_cons_succ]))
                      (refine takeL 4 (v := ?_) rfl (by kernel_rfl) (by kernel_rfl) (by kernel_rfl) (fun _ _ _ h => h) (Or.inl ⟨by rfl, ?_⟩) (by assumption) ?_; rotate_left; (focus (intro w9 hSw; (try dsimp only at hSw); go_simp; try with_reducible rfl)); (try simp only [Act.put, List.setIfInBounds_toArray, List.set_cons_zero, List.set_cons_succ]))
                      (refine takeL 5 (v := ?_) rfl (by kernel_rfl) (by kernel_rfl) (by kernel_rfl) (fun _ _ _ h => h) (Or.inl ⟨by rfl, ?_⟩) (by assumption) ?_; rotate_left; (focus (intro w9 hSw; (try dsimp only at hSw); go_simp; try with_reducible rfl)); (try simp only [Act.put, List.setIfInBounds_toArray, List.set_cons_zero, List.set_cons_succ]))
                      (refine takeL 6 (v := ?_) rfl (by kernel_rfl) (by kernel_rfl) (by kernel_rfl) (fun _ _ _ h => h) (Or.inl ⟨by rfl, ?_⟩) (by assumption) ?_; rotate_left; (focus (intro w9 hSw; (try dsimp only at hSw); go_simp; try with_reducible rfl)); (try simp only [Act.put, List.setIfInBounds_toArray, List.set_cons_zero, List.set_cons_succ]))
                      refine wpAnyH_done (by kernel_rfl) ?_ _
                      clear d0 d1 d2 hHeld
                      generalize hWx : W'.drew = Wx at *
                      gi_wp2_with fail
                      subst hWx
                      have t2 := HTF.out.trans ((bump ((pre.length : Int) + 1) (show _ from HTF.out.drew.now)).drewl)
                      obtain ⟨k1, k2⟩ := round_kept HT5.out.now HRC.out HTW.out.now t2
                      refine ⟨k1, k2, ?_, ?_, v2, ?_⟩
                      · have hn := upA_next HPRE.out hlt
                        rw [show A.2.getD pre.length default = ⟨ec, en, ek, em, et, eu, eo⟩ from by rw [List.getD_eq_getElem?_getD, HE0.out]; rfl] at hn
                        exact hn
                      · exact Nat.le_trans hsz t2.chg.size
                      · have ht := HTW.out.trans t2
                        rw [List.length_append, List.length_singleton, ← HSN.out]
                        exact ht
                    case stop2 =>
                      intro c pre2 W' hp hx
                      exact absurd hp hx.2
                · rw [hkk] at HAM
                  gi_wp2_with (refine ⟨trivial, ?_⟩; gi_at_call 32; refine (CallsIn.inRound l (callsIn_wide.2 (HAM.out _))).mono ?_; rintro r w6 ⟨rfl, rfl⟩)
                  have hSo : (stt room A acts pre.length).Ok room := stt_ok HOK.out acts _
                  have HT6 : Hid (Turns W (Wd.alloc (.cells #[.int .i64 kd, .int .i64 lg, .int .i64 aop, .int .i64 mo, .int .i64 yc, .int .i64 yn, .int .i64 yk, .string ym, .string yt, .int .i64 yu, .int .i64 yo, .slice A3 al.length c3] 54)) (fO gx pbx gy room (stt room A acts pre.length) (stt room A acts pre.length) v (upd R2 7 (Hp.Own.blk bI #[.int .i64 pre.length] 3))) (fO gx pbx gy room (stt room A acts pre.length) (stt room A acts pre.length) v (upd R2 7 (Hp.Own.blk bI #[.int .i64 pre.length] 3)))) := by rw [← hWd]; exact ((Turns.refl HTW.out.now).drew).alloc _
                  have HB6 : Hid (Bes Wd.heap.size #[.int .i64 kd, .int .i64 lg, .int .i64 aop, .int .i64 mo, .int .i64 yc, .int .i64 yn, .int .i64 yk, .string ym, .string yt, .int .i64 yu, .int .i64 yo, .slice A3 al.length c3] 54 (Wd.alloc (.cells #[.int .i64 kd, .int .i64 lg, .int .i64 aop, .int .i64 mo, .int .i64 yc, .int .i64 yn, .int .i64 yk, .string ym, .string yt, .int .i64 yu, .int .i64 yo, .slice A3 al.length c3] 54)) (fO gx pbx gy room (stt room A acts pre.length) (stt room A acts pre.length) v (upd R2 7 (Hp.Own.blk bI #[.int .i64 pre.length] 3)))) := Bes.new HTD.out.now _ _
                  obtain ⟨W5, hW5⟩ : ∃ W5, W5 = Wd.alloc (.cells #[.int .i64 kd, .int .i64 lg, .int .i64 aop, .int .i64 mo, .int .i64 yc, .int .i64 yn, .int .i64 yk, .string ym, .string yt, .int .i64 yu, .int .i64 yo, .slice A3 al.length c3] 54) := ⟨_, rfl⟩
                  rw [← hW5] at HT6 HB6 ⊢
                  clear hW5 a0 a1 a2 a3 a4 a5 a6 a7 a8 a9 a10 a11 q5 q16
                  obtain ⟨zb, hzb⟩ : ∃ zb, zb = W.heap.size := ⟨_, rfl⟩
                  rw [hszd, ← hzb] at HB6
                  rw [← hzb]
                  have HZB := Lib.hid hzb
                  have HSZ := Lib.hid hszd
                  clear hzb hszd
                  apply cut_in (R := fun w' => ∃ v', Turns W w' (fO gx pbx gy room (stt room A acts pre.length) (stt room A acts pre.length) v (upd R2 7 (Hp.Own.blk bI #[.int .i64 pre.length] 3))) (fO gx pbx gy room ((aReset room (stt room A acts pre.length) aop al).2) ((aReset room (stt room A acts pre.length) aop al).2) v' (upd R2 7 (Hp.Own.blk bI #[.int .i64 pre.length] 3))))
                  case h =>
                    refine wpIn_region_heldR (fun w' => w'.cell? ⟨w1.heap.size, 0, none⟩ = some (.pointer (some ⟨gx, 0, none⟩)) ∧ w'.cell? ⟨w2.heap.size, 0, none⟩ = some (.pointer (some ⟨gy, 0, none⟩)) ∧ w'.cell? ⟨zb, 2, none⟩ = some (.int .i64 aop) ∧ w'.cell? ⟨zb, 11, none⟩ = some (.slice A3 al.length c3)) (by kernel_rfl) (by kernel_rfl) (by rintro ⟨_, _, h, _⟩; cases h) ⟨(boxes HR0.out HR1.out HRD.out.2.2 HT6.out.now).2.2.1.cell 0, (boxes HR0.out HR1.out HRD.out.2.2 HT6.out.now).2.2.2.1.cell 0, HB6.out.blk.cell 2, HB6.out.blk.cell 11⟩ (fun hHeld => ?_)
                    (refine takeL 0 (v := ?_) rfl (by kernel_rfl) (by kernel_rfl) (by kernel_rfl) (fun _ _ _ h => nomatch h.1) (Or.inl ⟨by rfl, ?_⟩) (by assumption) ?_; rotate_left; (focus (intro w9 hSw; (try dsimp only at hSw); go_simp; try with_reducible rfl)); (try simp only [Act.put, List.setIfInBounds_toArray, List.set_cons_zero, List.set_cons_succ]))
                    (refine takeL 1 (v := ?_) rfl (by kernel_rfl) (by kernel_rfl) (by kernel_rfl) (fun _ _ _ h => nomatch h.1) (Or.inl ⟨by rfl, ?_⟩) (by assumption) ?_; rotate_left; (focus (intro w9 hSw; (try dsimp only at hSw); go_simp; try with_reducible rfl)); (try simp only [Act.put, List.setIfInBounds_toArray, List.set_cons_zero, List.set_cons_succ]))
                    (refine takeL 2 (v := ?_) rfl (by kernel_rfl) (by kernel_rfl) (by kernel_rfl) (fun _ _ _ h => nomatch h.1) (Or.inl ⟨by rfl, ?_⟩) (by assumption) ?_; rotate_left; (focus (intro w9 hSw; (try dsimp only at hSw); go_simp; try with_reducible rfl)); (try simp only [Act.put, List.setIfInBounds_toArray, List.set_cons_zero, List.set_cons_succ]))
                    (refine takeL 3 (v := ?_) rfl (by kernel_rfl) (by kernel_rfl) (by kernel_rfl) (fun _ _ _ h => nomatch h.1) (Or.inl ⟨by rfl, ?_⟩) (by assumption) ?_; rotate_left; (focus (intro w9 hSw; (try dsimp only at hSw); go_simp; try with_reducible rfl)); (try simp only [Act.put, List.setIfInBounds_toArray, List.set_cons_zero, List.set_cons_succ]))
                    (refine takeL 4 (v := ?_) rfl (by kernel_rfl) (by kernel_rfl) (by kernel_rfl) (fun _ _ _ h => nomatch h.1) (Or.inl ⟨by rfl, ?_⟩) (by assumption) ?_; rotate_left; (focus (intro w9 hSw; (try dsimp only at hSw); go_simp; try with_reducible rfl)); (try simp only [Act.put, List.setIfInBounds_toArray, List.set_cons_zero, List.set_cons_succ]))
                    (refine takeL 6 (v := ?_) rfl (by kernel_rfl) (by kernel_rfl) (by kernel_rfl) (fun _ _ _ h => nomatch h.1) (Or.inl ⟨by rfl, ?_⟩) (by assumption) ?_; rotate_left; (focus (intro w9 hSw; (try dsimp only at hSw); go_simp; try with_reducible rfl)); (try simp only [Act.put, List.setIfInBounds_toArray, List.set_cons_zero, List.set_cons_succ]))
                    (refine takeL 7 (v := ?_) rfl (by kernel_rfl) (by kernel_rfl) (by kernel_rfl) (fun _ _ _ h => nomatch h.1) (Or.inl ⟨by rfl, ?_⟩) (by assumption) ?_; rotate_left; (focus (intro w9 hSw; (try dsimp only at hSw); go_simp; try with_reducible rfl)); (try simp only [Act.put, List.setIfInBounds_toArray, List.set_cons_zero, List.set_cons_succ]))
                    (refine takeL 8 (v := ?_) rfl (by kernel_rfl) (by kernel_rfl) (by kernel_rfl) (fun _ _ _ h => nomatch h.1) (Or.inl ⟨by rfl, ?_⟩) (by assumption) ?_; rotate_left; (focus (intro w9 hSw; (try dsimp only at hSw); go_simp; try with_reducible rfl)); (try simp only [Act.put, List.setIfInBounds_toArray, List.set_cons_zero, List.set_cons_succ]))
                    (refine takeL 9 (v := ?_) rfl (by kernel_rfl) (by kernel_rfl) (by kernel_rfl) (fun _ _ _ h => nomatch h.1) (Or.inl ⟨by rfl, ?_⟩) (by assumption) ?_; rotate_left; (focus (intro w9 hSw; (try dsimp only at hSw); go_simp; try with_reducible rfl)); (try simp only [Act.put, List.setIfInBounds_toArray, List.set_cons_zero, List.set_cons_succ]))
                    (refine takeL 10 (v := ?_) rfl (by kernel_rfl) (by kernel_rfl) (by kernel_rfl) (fun _ _ _ h => nomatch h.1) (Or.inl ⟨by rfl, ?_⟩) (by assumption) ?_; rotate_left; (focus (intro w9 hSw; (try dsimp only at hSw); go_simp; try with_reducible rfl)); (try simp only [Act.put, List.setIfInBounds_toArray, List.set_cons_zero, List.set_cons_succ]))
                    refine wpAnyH_ready (rs := [5]) (by kernel_rfl) (by simp) ?_
                    refine consL 5 rfl (fun K hK => ?_) AllReadyH.nil
                    · go_simp
                      refine (fReset (Ay := stt room A acts pre.length) (v := v) (R := upd R2 7 (Hp.Own.blk bI #[.int .i64 pre.length] 3)) (gy := gy) (pbx := pbx) (m := room) (stt room A acts pre.length) aop al A3 al.length c3 _ (by exact HT6.out.drew.now) rfl (by exact (sl_far HSL.out (HTW.out.trans HT6.out.drew)).1) (by exact (sl_far HSL.out (HTW.out.trans HT6.out.drew)).2) HLL.out).mono ?_
                      rintro r wA ⟨rfl, tA⟩
                      have tA2 := HT6.out.trans tA.drewl
                      have bA := HB6.out.step tA.drewl
                      refine hK.out _ _ ⟨(boxes HR0.out HR1.out HRD.out.2.2 tA2.now).2.2.1.cell 0, (boxes HR0.out HR1.out HRD.out.2.2 tA2.now).2.2.2.1.cell 0, bA.blk.cell 2, bA.blk.cell 11⟩ (fun hHeld => ?_)
                      clear hK K
                      (try simp only [Act.put, List.setIfInBounds_toArray, List.set_cons_zero, List.set_cons_succ])
                      refine wpAnyH_ready (rs := [11]) (by kernel_rfl) (by simp) ?_
                      refine consL 11 rfl (fun K hK => ?_) AllReadyH.nil
                      go_simp
                      refine (gReset (Ax := (aReset room (stt room A acts pre.length) aop al).2) (v := v) (R := upd R2 7 (Hp.Own.blk bI #[.int .i64 pre.length] 3)) (gx := gx) (pbx := pbx) (m := room) (stt room A acts pre.length) hSo aop al A3 al.length c3 _ (by exact tA2.now) rfl (by exact (sl_far HSL.out (HTW.out.trans tA2)).1) HLL.out).mono ?_
                      rintro r wB ⟨rfl, v2, tB⟩
                      have tB2 := tA2.trans tB
                      have bB := bA.step tB
                      refine hK.out _ _ ⟨(boxes HR0.out HR1.out HRD.out.2.2 tB2.now).2.2.1.cell 0, (boxes HR0.out HR1.out HRD.out.2.2 tB2.now).2.2.2.1.cell 0, bB.blk.cell 2, bB.blk.cell 11⟩ (fun hHeld => ?_)
                      clear hK K
                      (try simp only [Act.put, List.setIfInBounds_toArray, List.set_cons_zero, List.set_cons_succ])
                      (refine takeL 12 (v := ?_) rfl (by kernel_rfl) (by kernel_rfl) (by kernel_rfl) (fun _ _ _ h => nomatch h.1) (Or.inl ⟨by rfl, ?_⟩) (by assumption) ?_; rotate_left; (focus (intro w9 hSw; (try dsimp only at hSw); go_simp; try with_reducible rfl)); (try simp only [Act.put, List.setIfInBounds_toArray, List.set_cons_zero, List.set_cons_succ]))
                      refine wpAnyH_done (by kernel_rfl) ?_ _
                      exact ⟨rfl, rfl, v2, tB2⟩
                  case k =>
                    rintro w7 ⟨v2, tR⟩
                    have hst : (aReset room (stt room A acts pre.length) aop al).2 = stt room A acts (pre.length + 1) := by
                      rw [stt_next HGET.out]
                      unfold aStep
                      rw [if_neg (by show ¬ am kd 3 = 0; omega), if_neg (by show ¬ am kd 3 = 1; omega), if_pos hkk]
                    rw [hst] at tR
                    clear hst
                    have hok2 : (stt room A acts (pre.length + 1)).Ok room := stt_ok HOK.out acts _
                    obtain ⟨Sn, hSn⟩ : ∃ S, S = stt room A acts (pre.length + 1) := ⟨_, rfl⟩
                    rw [← hSn] at tR hok2
                    have HSN := Lib.hid hSn
                    clear hSn
                    obtain ⟨-, -, -, -, kF7, -, -, -, kC7, -⟩ := boxes HR0.out HR1.out HRD.out.2.2 tR.now
                    have HK7 := Lib.hid (round_kept HT5.out.now HRC.out HTW.out.now tR)
                    have z13 : (w7.alloc (.cells #[.int .i64 0] 3)).cell? ⟨wr.heap.size + 1, 0, none⟩ = some (.func (.func 48) #[] #[.pointer (some ⟨wr.heap.size, 0, none⟩)]) := (kF7.alloc _).cell 0
                    have HC7 := Lib.hid (kC7.alloc (.cells #[.int .i64 0] 3))
                    have HT8 := Lib.hid (tR.pushT (Turns.blk_new w7 #[.int .i64 0] 3))
                    have hl8 : (w7.alloc (.cells #[.int .i64 0] 3)).heap[l]? = some (.loop rl) := by
                      have h7 := HK7.out.1.same l _ hl HRL.out rfl
                      exact (Below.heap_alloc _ _ _ (Array.getElem?_eq_some_iff.1 h7).1).trans h7
                    have hs8 : W.heap.size ≤ w7.heap.size := tR.chg.size
                    clear tR kF7 kC7
                    gi_wp2_with fail
                    obtain ⟨W8, hW8⟩ : ∃ W8, W8 = w7.alloc (.cells #[.int .i64 0] 3) := ⟨_, rfl⟩
                    rw [← hW8] at hl8 HT8 HC7 z13 ⊢
                    have hs9 : w7.heap.size < W8.heap.size := by rw [hW8]; simp
                    have HKA : Hid (Chg (fun _ => False) w7 W8) := by rw [hW8]; exact (Chg.refl _ _).alloc _
                    have lg8 : gy < W8.heap.size := Blk.lt (fO_hy HT8.out.now.2.1).1
                    have hp8 : ∀ b, pts W8 ⟨gy, 2, none⟩ b → b < W8.heap.size := fun b hb => pts_lt HT8.out.now.2.1 b hb
                    clear hW8
                    generalize hbK : w7.heap.size = bK at *
                    generalize hact2 : Act.mk _ _ = act2
                    have HACT2 := Lib.hid hact2
                    have hcf : ∀ k : Int, Celled (Hp.Own.both (Hp.Own.blk bK #[.int .i64 k] 3) (fO gx pbx gy room Sn Sn v2 (upd R2 7 (Hp.Own.blk bI #[.int .i64 pre.length] 3)))) := fun k => celled_both (celled_blk _ _ _) (celled_fO _ _ _ _ _ _ _ _ (celled_upd HRC.out 7 (celled_blk _ _ _)))
                    refine wpIn_rangeFunc_ownN (l₀ := l) (r₀ := rl) rfl hl8 (by omega) (gf := 48) (lb := #[.pointer (some ⟨wr.heap.size, 0, none⟩)]) (by rw [← hact2]; rfl) trivial (enters_of Try.func48 (by kernel_rfl) rfl)
                      ((all_seq gx pbx room Sn wr.heap.size W8.heap.size (5 - 1 - 1 - 1) ⟨gy, 2, none⟩ W8 (Nat.le_refl _) lg8 hp8 (Blk.lt HC7.out) (Blk.cell HC7.out 0) (fO_hx HT8.out.now.2.1) (by omega)).inRound l) kpt_t (kpt_b lg8) (Below.refl _ _) (fun _ => rfl)
                      (fun pre2 W' => pre2 <+: upA Sn Sn.2.length ∧ W8.heap.size ≤ W'.heap.size ∧ Turns W W' (fO gx pbx gy room (stt room A acts pre.length) (stt room A acts pre.length) v (upd R2 7 (Hp.Own.blk bI #[.int .i64 pre.length] 3))) (Hp.Own.both (Hp.Own.blk bK #[.int .i64 pre2.length] 3) (fO gx pbx gy room Sn Sn v2 (upd R2 7 (Hp.Own.blk bI #[.int .i64 pre.length] 3)))))
                      (fun c pre2 _ => c = .ret ∧ ¬ pre2 <+: upA Sn Sn.2.length)
                      ?hI2 ?hIx2 ?h02
                      (fun x a' W' => ∃ Bx2, Vbx W8.heap.size gy W' Bx2 x.2.cells.toArray 51 ∧ gy < W'.heap.size ∧ a' = { tmps := (((act2.tmps.setIfInBounds 151 (.int .i64 x.1)).setIfInBounds 152 (.agg x.2.cells.toArray)).setIfInBounds 21 (.int .i64 x.1)).setIfInBounds 22 (.pointer (some ⟨Bx2, 0, none⟩)), defers := [] })
                      ?hAx2 ?assign2 ?body2 ?done2 ?stop2
                    case hI2 =>
                      intro pre2 X Y row hs hg hr
                      obtain ⟨h1, h2, h3⟩ := hs
                      exact ⟨h1, Nat.le_trans h2 hg.size, turns_keep2 (hcf _) (by omega) h3 hg hr⟩
                    case hIx2 => exact fun c => ownFrom_pure _ _
                    case h02 => exact ⟨List.nil_prefix, Nat.le_refl _, HT8.out⟩
                    case hAx2 =>
                      intro x a' s X Y row hs hg hr
                      obtain ⟨Bx2, h1, h2, h3⟩ := hs
                      exact ⟨Bx2, h1.keep lg8 h2 hg hr, Nat.lt_of_lt_of_le h2 hg.size, h3⟩
                    case assign2 =>
                      rintro l2 pre2 ⟨op2, ec2, en2, ek2, em2, et2, eu2, eo2⟩ W' K ⟨hpre2, hsz2, ht2⟩ hK
                      have hsub := HACT2.out
                      subst hsub
                      have hgW2 : gy < W'.heap.size := Nat.lt_of_lt_of_le lg8 hsz2
                      have HPL := Lib.hid (fun b hb => pts_lt ht2.now.2.1 b hb)
                      have HTW2 := Lib.hid ht2
                      clear ht2 hact2 HACT2
                      dsimp only [encE, En.cells]
                      gi_wp2_with fail
                      exact hK _ _ ((KeepsOthers.alloc _ _).from _) (Kpt.of_chg ((Chg.refl _ _).alloc _) hgW2) ⟨hpre2, Nat.le_trans hsz2 (by simp), HTW2.out.alloc _⟩
                        ⟨W'.heap.size, ⟨hsz2, fun hp => Nat.lt_irrefl _ (HPL.out _ (pts_of_block (Below.heap_alloc _ _ _ hgW2) _ hp)), Blk.new _ _ _⟩, Nat.lt_of_lt_of_le hgW2 (by simp), rfl⟩
                    case body2 =>
                      rintro l2 pre2 ⟨op2, ec2, en2, ek2, em2, et2, eu2, eo2⟩ a2 W' hl2 ⟨rl2, hrl2⟩ ⟨hpre2, hsz2, ht2⟩ ⟨Bx2, hvb2, hgW2, rfl⟩ hlt2
                      have hsub := HACT2.out
                      subst hsub
                      obtain ⟨-, kR2, -, kY2, -, -, -, -, -, -⟩ := boxes HR0.out HR1.out HRD.out.2.2 ht2.now.2.1
                      obtain ⟨Av, cv, hv2⟩ := rO_slice (fO_hy ht2.now.2.1)
                      obtain ⟨e0, he0⟩ : ∃ e, Sn.2[pre2.length]? = some e := ⟨Sn.2[pre2.length]'hlt2, List.getElem?_eq_getElem _⟩
                      have hrow := (fO_hy ht2.now.2.1).2.1
                      rw [hv2] at hrow
                      obtain ⟨vb, voff, hAc, hwb, hwc⟩ := EnS.of_row hrow _ _ he0
                      subst hAc
                      obtain ⟨xc2, xn2, xk2, xm2, xt2, xu2, xo2⟩ := e0
                      have s0 : W'.cell? ⟨bK, 0, none⟩ = some (.int .i64 pre2.length) := Blk.cell ht2.now.1 0
                      have s1 : W'.cell? ⟨w2.heap.size, 0, none⟩ = some (.pointer (some ⟨gy, 0, none⟩)) := kY2.cell 0
                      have s2 : W'.cell? ⟨gy, 2, none⟩ = some (.slice (some ⟨vb, voff, none⟩) Sn.2.length cv) := by rw [← hv2]; exact (rO_cells (fO_hy ht2.now.2.1)).2.2
                      have s3 : W'.cell? ⟨gy, 1, none⟩ = some (.int .i64 Sn.1) := (rO_cells (fO_hy ht2.now.2.1)).2.1
                      have f0 : W'.cell? ⟨Bx2, 0, none⟩ = some (.int .i64 ec2) := hvb2.2.2.cell 0
                      have f1 : W'.cell? ⟨Bx2, 1, none⟩ = some (.int .i64 en2) := hvb2.2.2.cell 1
                      have f2 : W'.cell? ⟨Bx2, 2, none⟩ = some (.int .i64 ek2) := hvb2.2.2.cell 2
                      have f3 : W'.cell? ⟨Bx2, 3, none⟩ = some (.string em2) := hvb2.2.2.cell 3
                      have f4 : W'.cell? ⟨Bx2, 4, none⟩ = some (.string et2) := hvb2.2.2.cell 4
                      have f5 : W'.cell? ⟨Bx2, 5, none⟩ = some (.int .i64 eu2) := hvb2.2.2.cell 5
                      have f6 : W'.cell? ⟨Bx2, 6, none⟩ = some (.int .i64 eo2) := hvb2.2.2.cell 6
                      have g0 : W'.cell? ⟨vb, voff + pre2.length * 7, none⟩ = some (.int .i64 xc2) := hwc 0 _ rfl
                      have g1 : W'.cell? ⟨vb, voff + pre2.length * 7 + 1, none⟩ = some (.int .i64 xn2) := hwc 1 _ rfl
                      have g2 : W'.cell? ⟨vb, voff + pre2.length * 7 + 2, none⟩ = some (.int .i64 xk2) := hwc 2 _ rfl
                      have g3 : W'.cell? ⟨vb, voff + pre2.length * 7 + 3, none⟩ = some (.string xm2) := hwc 3 _ rfl
                      have g4 : W'.cell? ⟨vb, voff + pre2.length * 7 + 4, none⟩ = some (.string xt2) := hwc 4 _ rfl
                      have g5 : W'.cell? ⟨vb, voff + pre2.length * 7 + 5, none⟩ = some (.int .i64 xu2) := hwc 5 _ rfl
                      have g6 : W'.cell? ⟨vb, voff + pre2.length * 7 + 6, none⟩ = some (.int .i64 xo2) := hwc 6 _ rfl
                      have KR2 := Lib.hid (kR2.frozen 0)
                      have KR3 := Lib.hid (kR2.cell 0)
                      have KKf : Hid (W'.frozen? ⟨bK, 0, none⟩ = false) := Blk.frozen ht2.now.1 0
                      have HTF := Lib.hid ht2
                      have HPRE2 := Lib.hid hpre2
                      have HE2 := Lib.hid he0
                      have l64 := hok2.m64
                      have llen := hok2.len
                      have lb0 := hok2.b0
                      have lb1 := hok2.b1
                      have hjd : decide ((Sn.2.length : Int) ≤ (pre2.length : Int)) = false := by simp; omega
                      have hjd' : decide (Sn.2.length ≤ pre2.length) = false := by simp; omega
                      have hj0 : (0 : Int) ≤ (pre2.length : Int) := Int.natCast_nonneg _
                      have hj1 : (pre2.length : Int) < (Sn.2.length : Int) := by omega
                      have hw1 : IntKind.i64.wrap (Sn.1 + 1) = Sn.1 + 1 := IntWalk.i64_in _ (by omega)
                      have hw2 : IntKind.i64.wrap (Sn.1 + 1 + (pre2.length : Int)) = Sn.1 + 1 + (pre2.length : Int) := IntWalk.i64_in _ (by omega)
                      have hw3 : IntKind.i64.wrap ((pre2.length : Int) + 1) = (pre2.length : Int) + 1 := IntWalk.i64_in _ (by omega)
                      clear ht2 hvb2 hpre2 hrl2 he0 hwc hrow kR2 kY2 hv2 HACT2 hact2
                      simp only [List.setIfInBounds_toArray, List.set_cons_zero, List.set_cons_succ, En.cells]
                      by_cases hx2 : (⟨ec2, en2, ek2, em2, et2, eu2, eo2⟩ : En) = ⟨xc2, xn2, xk2, xm2, xt2, xu2, xo2⟩
                      · by_cases hop2 : op2 = Sn.1 + 1 + (pre2.length : Int)
                        · obtain ⟨rfl, rfl, rfl, rfl, rfl, rfl, rfl⟩ := En.mk.inj hx2
                          subst hop2
                          clear hx2
                          gi_wp2_with fail
                          refine wpIn_region_heldR (fun w' => w'.cell? ⟨bK, 0, none⟩ = some (.int .i64 pre2.length) ∧ w'.cell? ⟨w2.heap.size, 0, none⟩ = some (.pointer (some ⟨gy, 0, none⟩)) ∧ w'.cell? ⟨gy, 2, none⟩ = some (.slice (some ⟨vb, voff, none⟩) Sn.2.length cv) ∧ w'.cell? ⟨gy, 1, none⟩ = some (.int .i64 Sn.1) ∧ w'.cell? ⟨Bx2, 0, none⟩ = some (.int .i64 ec2) ∧ w'.cell? ⟨Bx2, 1, none⟩ = some (.int .i64 en2) ∧ w'.cell? ⟨Bx2, 2, none⟩ = some (.int .i64 ek2) ∧ w'.cell? ⟨Bx2, 3, none⟩ = some (.string em2) ∧ w'.cell? ⟨Bx2, 4, none⟩ = some (.string et2) ∧ w'.cell? ⟨Bx2, 5, none⟩ = some (.int .i64 eu2) ∧ w'.cell? ⟨Bx2, 6, none⟩ = some (.int .i64 eo2) ∧ w'.cell? ⟨vb, voff + pre2.length * 7, none⟩ = some (.int .i64 ec2) ∧ w'.cell? ⟨vb, voff + pre2.length * 7 + 1, none⟩ = some (.int .i64 en2) ∧ w'.cell? ⟨vb, voff + pre2.length * 7 + 2, none⟩ = some (.int .i64 ek2) ∧ w'.cell? ⟨vb, voff + pre2.length * 7 + 3, none⟩ = some (.string em2) ∧ w'.cell? ⟨vb, voff + pre2.length * 7 + 4, none⟩ = some (.string et2) ∧ w'.cell? ⟨vb, voff + pre2.length * 7 + 5, none⟩ = some (.int .i64 eu2) ∧ w'.cell? ⟨vb, voff + pre2.length * 7 + 6, none⟩ = some (.int .i64 eo2)) (by kernel_rfl) (by kernel_rfl) (by rintro ⟨_, _, h⟩; exact h) ⟨s0, s1, s2, s3, f0, f1, f2, f3, f4, f5, f6, g0, g1, g2, g3, g4, g5, g6⟩ (fun hHeld => ?_)
                          (refine takeL 0 (v := ?_) rfl (by kernel_rfl) (by kernel_rfl) (by kernel_rfl) (fun _ _ _ h => h) (Or.inl ⟨by rfl, ?_⟩) (by assumption) ?_; rotate_left; (focus (intro w9 hSw; (try dsimp only at hSw); go_simp; try with_reducible rfl)); (try simp only [Act.put, List.setIfInBounds_toArray, List.set_cons_zero, List.set_cons_succ]))
                          (refine takeL 1 (v := ?_) rfl (by kernel_rfl) (by kernel_rfl) (by kernel_rfl) (fun _ _ _ h => h) (Or.inl ⟨by rfl, ?_⟩) (by assumption) ?_; rotate_left; (focus (intro w9 hSw; (try dsimp only at hSw); go_simp; try with_reducible rfl)); (try simp only [Act.put, List.setIfInBounds_toArray, List.set_cons_zero, List.set_cons_succ]))
                          (refine takeL 2 (v := ?_) rfl (by kernel_rfl) (by kernel_rfl) (by kernel_rfl) (fun _ _ _ h => h) (Or.inl ⟨by rfl, ?_⟩) (by assumption) ?_; rotate_left; (focus (intro w9 hSw; (try dsimp only at hSw); go_simp; try with_reducible rfl)); (try simp only [Act.put, List.setIfInBounds_toArray, List.set_cons_zero, List.set_cons_succ]))
                          (refine takeL 3 (v := ?_) rfl (by kernel_rfl) (by kernel_rfl) (by kernel_rfl) (fun _ _ _ h => h) (Or.inl ⟨by rfl, ?_⟩) (by assumption) ?_; rotate_left; (focus (intro w9 hSw; (try dsimp only at hSw); go_simp; try with_reducible rfl)); (try simp only [Act.put, List.setIfInBounds_toArray, List.set_cons_zero, List.set_cons_succ]))
                          (refine takeL 4 (v := ?_) rfl (by kernel_rfl) (by kernel_rfl) (by kernel_rfl) (fun _ _ _ h => h) (Or.inl ⟨by rfl, ?_⟩) (by assumption) ?_; rotate_left; (focus (intro w9 hSw; (try dsimp only at hSw); go_simp; try with_reducible rfl)); (try simp only [Act.put, List.setIfInBounds_toArray, List.set_cons_zero, List.set_cons_succ]))
                          (refine takeL 5 (v := ?_) rfl (by kernel_rfl) (by kernel_rfl) (by kernel_rfl) (fun _ _ _ h => h) (Or.inl ⟨by rfl, ?_⟩) (by assumption) ?_; rotate_left; (focus (intro w9 hSw; (try dsimp only at hSw); go_simp; try with_reducible rfl)); (try simp only [Act.put, List.setIfInBounds_toArray, List.set_cons_zero, List.set_cons_succ]))
                          (refine takeL 6 (v := ?_) rfl (by kernel_rfl) (by kernel_rfl) (by kernel_rfl) (fun _ _ _ h => h) (Or.inl ⟨by rfl, ?_⟩) (by assumption) ?_; rotate_left; (focus (intro w9 hSw; (try dsimp only at hSw); go_simp; try with_reducible rfl)); (try simp only [Act.put, List.setIfInBounds_toArray, List.set_cons_zero, List.set_cons_succ]))
                          (refine takeL 7 (v := ?_) rfl (by kernel_rfl) (by kernel_rfl) (by kernel_rfl) (fun _ _ _ h => h) (Or.inl ⟨by rfl, ?_⟩) (by assumption) ?_; rotate_left; (focus (intro w9 hSw; (try dsimp only at hSw); go_simp; try with_reducible rfl)); (try simp only [Act.put, List.setIfInBounds_toArray, List.set_cons_zero, List.set_cons_succ]))
                          (refine takeL 8 (v := ?_) rfl (by kernel_rfl) (by kernel_rfl) (by kernel_rfl) (fun _ _ _ h => h) (Or.inl ⟨by rfl, ?_⟩) (by assumption) ?_; rotate_left; (focus (intro w9 hSw; (try dsimp only at hSw); go_simp; try with_reducible rfl)); (try simp only [Act.put, List.setIfInBounds_toArray, List.set_cons_zero, List.set_cons_succ]))
                          (refine takeL 9 (v := ?_) rfl (by kernel_rfl) (by kernel_rfl) (by kernel_rfl) (fun _ _ _ h => h) (Or.inl ⟨by rfl, ?_⟩) (by assumption) ?_; rotate_left; (focus (intro w9 hSw; (try dsimp only at hSw); go_simp; try with_reducible rfl)); (try simp only [Act.put, List.setIfInBounds_toArray, List.set_cons_zero, List.set_cons_succ]))
                          (refine takeL 10 (v := ?_) rfl (by kernel_rfl) (by kernel_rfl) (by kernel_rfl) (fun _ _ _ h => h) (Or.inl ⟨by rfl, ?_⟩) (by assumption) ?_; rotate_left; (focus (intro w9 hSw; (try dsimp only at hSw); go_simp; try with_reducible rfl)); (try simp only [Act.put, List.setIfInBounds_toArray, List.set_cons_zero, List.set_cons_succ]))
                          (refine takeL 11 (v := ?_) rfl (by kernel_rfl) (by kernel_rfl) (by kernel_rfl) (fun _ _ _ h => h) (Or.inl ⟨by rfl, ?_⟩) (by assumption) ?_; rotate_left; (focus (intro w9 hSw; (try dsimp only at hSw); go_simp; try with_reducible rfl)); (try simp only [Act.put, List.setIfInBounds_toArray, List.set_cons_zero, List.set_cons_succ]))
                          (refine takeL 12 (v := ?_) rfl (by kernel_rfl) (by kernel_rfl) (by kernel_rfl) (fun _ _ _ h => h) (Or.inl ⟨by rfl, ?_⟩) (by assumption) ?_; rotate_left; (focus (intro w9 hSw; (try dsimp only at hSw); go_simp; try with_reducible rfl)); (try simp only [Act.put, List.setIfInBounds_toArray, List.set_cons_zero, List.set_cons_succ]))
                          (refine takeL 13 (v := ?_) rfl (by kernel_rfl) (by kernel_rfl) (by kernel_rfl) (fun _ _ _ h => h) (Or.inl ⟨by rfl, ?_⟩) (by assumption) ?_; rotate_left; (focus (intro w9 hSw; (try dsimp only at hSw); go_simp; try with_reducible rfl)); (try simp only [Act.put, List.setIfInBounds_toArray, List.set_cons_zero, List.set_cons_succ]))
                          (refine takeL 14 (v := ?_) rfl (by kernel_rfl) (by kernel_rfl) (by kernel_rfl) (fun _ _ _ h => h) (Or.inl ⟨by rfl, ?_⟩) (by assumption) ?_; rotate_left; (focus (intro w9 hSw; (try dsimp only at hSw); go_simp; try with_reducible rfl)); (try simp only [Act.put, List.setIfInBounds_toArray, List.set_cons_zero, List.set_cons_succ]))
                          (refine takeL 15 (v := ?_) rfl (by kernel_rfl) (by kernel_rfl) (by kernel_rfl) (fun _ _ _ h => h) (Or.inl ⟨by rfl, ?_⟩) (by assumption) ?_; rotate_left; (focus (intro w9 hSw; (try dsimp only at hSw); go_simp; try with_reducible rfl)); (try simp only [Act.put, List.setIfInBounds_toArray, List.set_cons_zero, List.set_cons_succ]))
                          (refine takeL 16 (v := ?_) rfl (by kernel_rfl) (by kernel_rfl) (by kernel_rfl) (fun _ _ _ h => h) (Or.inl ⟨by rfl, ?_⟩) (by assumption) ?_; rotate_left; (focus (intro w9 hSw; (try dsimp only at hSw); go_simp; try with_reducible rfl)); (try simp only [Act.put, List.setIfInBounds_toArray, List.set_cons_zero, List.set_cons_succ]))
                          (refine takeL 17 (v := ?_) rfl (by kernel_rfl) (by kernel_rfl) (by kernel_rfl) (fun _ _ _ h => h) (Or.inl ⟨by rfl, ?_⟩) (by assumption) ?_; rotate_left; (focus (intro w9 hSw; (try dsimp only at hSw); go_simp; try with_reducible rfl)); (try simp only [Act.put, List.setIfInBounds_toArray, List.set_cons_zero, List.set_cons_succ]))
                          (refine takeL 18 (v := ?_) rfl (by kernel_rfl) (by kernel_rfl) (by kernel_rfl) (fun _ _ _ h => h) (Or.inl ⟨by rfl, ?_⟩) (by assumption) ?_; rotate_left; (focus (intro w9 hSw; (try dsimp only at hSw); go_simp; try with_reducible rfl)); (try simp only [Act.put, List.setIfInBounds_toArray, List.set_cons_zero, List.set_cons_succ]))
                          (refine takeL 19 (v := ?_) rfl (by kernel_rfl) (by kernel_rfl) (by kernel_rfl) (fun _ _ _ h => h) (Or.inl ⟨by rfl, ?_⟩) (by assumption) ?_; rotate_left; (focus (intro w9 hSw; (try dsimp only at hSw); go_simp; try with_reducible rfl)); (try simp only [Act.put, List.setIfInBounds_toArray, List.set_cons_zero, List.set_cons_succ]))
                          (refine takeL 20 (v := ?_) rfl (by kernel_rfl) (by kernel_rfl) (by kernel_rfl) (fun _ _ _ h => h) (Or.inl ⟨by rfl, ?_⟩) (by assumption) ?_; rotate_left; (focus (intro w9 hSw; (try dsimp only at hSw); go_simp; try with_reducible rfl)); (try simp only [Act.put, List.setIfInBounds_toArray, List.set_cons_zero, List.set_cons_succ]))
                          (refine takeL 21 (v := ?_) rfl (by kernel_rfl) (by kernel_rfl) (by kernel_rfl) (fun _ _ _ h => h) (Or.inl ⟨by rfl, ?_⟩) (by assumption) ?_; rotate_left; (focus (intro w9 hSw; (try dsimp only at hSw); go_simp; try with_reducible rfl)); (try simp only [Act.put, List.setIfInBounds_toArray, List.set_cons_zero, List.set_cons_succ]))
                          (refine takeL 22 (v := ?_) rfl (by kernel_rfl) (by kernel_rfl) (by kernel_rfl) (fun _ _ _ h => h) (Or.inl ⟨by rfl, ?_⟩) (by assumption) ?_; rotate_left; (focus (intro w9 hSw; (try dsimp only at hSw); go_simp; try with_reducible rfl)); (try simp only [Act.put, List.setIfInBounds_toArray, List.set_cons_zero, List.set_cons_succ]))
                          (refine takeL 23 (v := ?_) rfl (by kernel_rfl) (by kernel_rfl) (by kernel_rfl) (fun _ _ _ h => h) (Or.inl ⟨by rfl, ?_⟩) (by assumption) ?_; rotate_left; (focus (intro w9 hSw; (try dsimp only at hSw); go_simp; try with_reducible rfl)); (try simp only [Act.put, List.setIfInBounds_toArray, List.set_cons_zero, List.set_cons_succ]))
                          (refine takeL 24 (v := ?_) rfl (by kernel_rfl) (by kernel_rfl) (by kernel_rfl) (fun _ _ _ h => h) (Or.inl ⟨by rfl, ?_⟩) (by assumption) ?_; rotate_left; (focus (intro w9 hSw; (try dsimp only at hSw); go_simp; try with_reducible rfl)); (try simp only [Act.put, List.setIfInBounds_toArray, List.set_cons_zero, List.set_cons_succ]))
                          (refine takeL 25 (v := ?_) rfl (by kernel_rfl) (by kernel_rfl) (by kernel_rfl) (fun _ _ _ h => h) (Or.inl ⟨by rfl, ?_⟩) (by assumption) ?_; rotate_left; (focus (intro w9 hSw; (try dsimp only at hSw); go_simp; try with_reducible rfl)); (try simp only [Act.put, List.setIfInBounds_toArray, List.set_cons_zero, List.set_cons_succ]))
                          (refine takeL 26 (v := ?_) rfl (by kernel_rfl) (by kernel_rfl) (by kernel_rfl) (fun _ _ _ h => h) (Or.inl ⟨by rfl, ?_⟩) (by assumption) ?_; rotate_left; (focus (intro w9 hSw; (try dsimp only at hSw); go_simp; try with_reducible rfl)); (try simp only [Act.put, List.setIfInBounds_toArray, List.set_cons_zero, List.set_cons_succ]))
                          (refine takeL 27 (v := ?_) rfl (by kernel_rfl) (by kernel_rfl) (by kernel_rfl) (fun _ _ _ h => h) (Or.inl ⟨by rfl, ?_⟩) (by assumption) ?_; rotate_left; (focus (intro w9 hSw; (try dsimp only at hSw); go_simp; try with_reducible rfl)); (try simp only [Act.put, List.setIfInBounds_toArray, List.set_cons_zero, List.set_cons_succ]))
                          (refine takeL 28 (v := ?_) rfl (by kernel_rfl) (by kernel_rfl) (by kernel_rfl) (fun _ _ _ h => h) (Or.inl ⟨by rfl, ?_⟩) (by assumption) ?_; rotate_left; (focus (intro w9 hSw; (try dsimp only at hSw); go_simp; try with_reducible rfl)); (try simp only [Act.put, List.setIfInBounds_toArray, List.set_cons_zero, List.set_cons_succ]))
                          refine wpAnyH_done (by kernel_rfl) ?_ _
                          have q0 : W'.drew.cell? ⟨bK, 0, none⟩ = some (.int .i64 pre2.length) := s0
                          have q1 : W'.drew.frozen? ⟨bK, 0, none⟩ = false := KKf.out
                          clear s0 s1 s2 s3 f0 f1 f2 f3 f4 f5 f6 g0 g1 g2 g3 g4 g5 g6 hHeld hjd hjd' hw1 hw2
                          generalize hWx : W'.drew = Wx at *
                          gi_wp2_with fail
                          subst hWx
                          have hgK : gy ≠ bK := fun e => HT8.out.now.2.2 bK rfl ⟨.y, Or.inl e.symm⟩
                          refine ⟨keeps_drew ((KeepsOthers.setCell _ _ _).from _), kpt_drew (kpt_set hs9 hgK), ?_, ?_, ?_⟩
                          · have hn := upA_next HPRE2.out hlt2
                            rw [show Sn.2.getD pre2.length default = ⟨ec2, en2, ek2, em2, et2, eu2, eo2⟩ from by rw [List.getD_eq_getElem?_getD, HE2.out]; rfl] at hn
                            exact hn
                          · exact Nat.le_trans hsz2 (by simp [World.setCell])
                          · have h9 := (HTF.out.drew).put0 0 (.int .i64 ((pre2.length : Int) + 1))
                            rw [List.length_append, List.length_singleton]
                            exact h9
                        · obtain ⟨rfl, rfl, rfl, rfl, rfl, rfl, rfl⟩ := En.mk.inj hx2
                          clear hx2
                          gi_wp2_with fail
                          refine wpIn_region_heldR (fun w' => w'.cell? ⟨bK, 0, none⟩ = some (.int .i64 pre2.length) ∧ w'.cell? ⟨w2.heap.size, 0, none⟩ = some (.pointer (some ⟨gy, 0, none⟩)) ∧ w'.cell? ⟨gy, 2, none⟩ = some (.slice (some ⟨vb, voff, none⟩) Sn.2.length cv) ∧ w'.cell? ⟨gy, 1, none⟩ = some (.int .i64 Sn.1) ∧ w'.cell? ⟨Bx2, 0, none⟩ = some (.int .i64 ec2) ∧ w'.cell? ⟨Bx2, 1, none⟩ = some (.int .i64 en2) ∧ w'.cell? ⟨Bx2, 2, none⟩ = some (.int .i64 ek2) ∧ w'.cell? ⟨Bx2, 3, none⟩ = some (.string em2) ∧ w'.cell? ⟨Bx2, 4, none⟩ = some (.string et2) ∧ w'.cell? ⟨Bx2, 5, none⟩ = some (.int .i64 eu2) ∧ w'.cell? ⟨Bx2, 6, none⟩ = some (.int .i64 eo2) ∧ w'.cell? ⟨vb, voff + pre2.length * 7, none⟩ = some (.int .i64 ec2) ∧ w'.cell? ⟨vb, voff + pre2.length * 7 + 1, none⟩ = some (.int .i64 en2) ∧ w'.cell? ⟨vb, voff + pre2.length * 7 + 2, none⟩ = some (.int .i64 ek2) ∧ w'.cell? ⟨vb, voff + pre2.length * 7 + 3, none⟩ = some (.string em2) ∧ w'.cell? ⟨vb, voff + pre2.length * 7 + 4, none⟩ = some (.string et2) ∧ w'.cell? ⟨vb, voff + pre2.length * 7 + 5, none⟩ = some (.int .i64 eu2) ∧ w'.cell? ⟨vb, voff + pre2.length * 7 + 6, none⟩ = some (.int .i64 eo2)) (by kernel_rfl) (by kernel_rfl) (by rintro ⟨_, _, h⟩; exact h) ⟨s0, s1, s2, s3, f0, f1, f2, f3, f4, f5, f6, g0, g1, g2, g3, g4, g5, g6⟩ (fun hHeld => ?_)
                          (refine takeL 0 (v := ?_) rfl (by kernel_rfl) (by kernel_rfl) (by kernel_rfl) (fun _ _ _ h => h) (Or.inl ⟨by rfl, ?_⟩) (by assumption) ?_; rotate_left; (focus (intro w9 hSw; (try dsimp only at hSw); go_simp; try with_reducible rfl)); (try simp only [Act.put, List.setIfInBounds_toArray, List.set_cons_zero, List.set_cons_succ]))
                          (refine takeL 1 (v := ?_) rfl (by kernel_rfl) (by kernel_rfl) (by kernel_rfl) (fun _ _ _ h => h) (Or.inl ⟨by rfl, ?_⟩) (by assumption) ?_; rotate_left; (focus (intro w9 hSw; (try dsimp only at hSw); go_simp; try with_reducible rfl)); (try simp only [Act.put, List.setIfInBounds_toArray, List.set_cons_zero, List.set_cons_succ]))
                          (refine takeL 2 (v := ?_) rfl (by kernel_rfl) (by kernel_rfl) (by kernel_rfl) (fun _ _ _ h => h) (Or.inl ⟨by rfl, ?_⟩) (by assumption) ?_; rotate_left; (focus (intro w9 hSw; (try dsimp only at hSw); go_simp; try with_reducible rfl)); (try simp only [Act.put, List.setIfInBounds_toArray, List.set_cons_zero, List.set_cons_succ]))
                          (refine takeL 3 (v := ?_) rfl (by kernel_rfl) (by kernel_rfl) (by kernel_rfl) (fun _ _ _ h => h) (Or.inl ⟨by rfl, ?_⟩) (by assumption) ?_; rotate_left; (focus (intro w9 hSw; (try dsimp only at hSw); go_simp; try with_reducible rfl)); (try simp only [Act.put, List.setIfInBounds_toArray, List.set_cons_zero, List.set_cons_succ]))
                          (refine takeL 4 (v := ?_) rfl (by kernel_rfl) (by kernel_rfl) (by kernel_rfl) (fun _ _ _ h => h) (Or.inl ⟨by rfl, ?_⟩) (by assumption) ?_; rotate_left; (focus (intro w9 hSw; (try dsimp only at hSw); go_simp; try with_reducible rfl)); (try simp only [Act.put, List.setIfInBounds_toArray, List.set_cons_zero, List.set_cons_succ]))
                          (refine takeL 5 (v := ?_) rfl (by kernel_rfl) (by kernel_rfl) (by kernel_rfl) (fun _ _ _ h => h) (Or.inl ⟨by rfl, ?_⟩) (by assumption) ?_; rotate_left; (focus (intro w9 hSw; (try dsimp only at hSw); go_simp; try with_reducible rfl)); (try simp only [Act.put, List.setIfInBounds_toArray, List.set_cons_zero, List.set_cons_succ]))
                          (refine takeL 6 (v := ?_) rfl (by kernel_rfl) (by kernel_rfl) (by kernel_rfl) (fun _ _ _ h => h) (Or.inl ⟨by rfl, ?_⟩) (by assumption) ?_; rotate_left; (focus (intro w9 hSw; (try dsimp only at hSw); go_simp; try with_reducible rfl)); (try simp only [Act.put, List.setIfInBounds_toArray, List.set_cons_zero, List.set_cons_succ]))
                          (refine takeL 7 (v := ?_) rfl (by kernel_rfl) (by kernel_rfl) (by kernel_rfl) (fun _ _ _ h => h) (Or.inl ⟨by rfl, ?_⟩) (by assumption) ?_; rotate_left; (focus (intro w9 hSw; (try dsimp only at hSw); go_simp; try with_reducible rfl)); (try simp only [Act.put, List.setIfInBounds_toArray, List.set_cons_zero, List.set_cons_succ]))
                          (refine takeL 8 (v := ?_) rfl (by kernel_rfl) (by kernel_rfl) (by kernel_rfl) (fun _ _ _ h => h) (Or.inl ⟨by rfl, ?_⟩) (by assumption) ?_; rotate_left; (focus (intro w9 hSw; (try dsimp only at hSw); go_simp; try with_reducible rfl)); (try simp only [Act.put, List.setIfInBounds_toArray, List.set_cons_zero, List.set_cons_succ]))
                          (refine takeL 9 (v := ?_) rfl (by kernel_rfl) (by kernel_rfl) (by kernel_rfl) (fun _ _ _ h => h) (Or.inl ⟨by rfl, ?_⟩) (by assumption) ?_; rotate_left; (focus (intro w9 hSw; (try dsimp only at hSw); go_simp; try with_reducible rfl)); (try simp only [Act.put, List.setIfInBounds_toArray, List.set_cons_zero, List.set_cons_succ]))
                          (refine takeL 10 (v := ?_) rfl (by kernel_rfl) (by kernel_rfl) (by kernel_rfl) (fun _ _ _ h => h) (Or.inl ⟨by rfl, ?_⟩) (by assumption) ?_; rotate_left; (focus (intro w9 hSw; (try dsimp only at hSw); go_simp; try with_reducible rfl)); (try simp only [Act.put, List.setIfInBounds_toArray, List.set_cons_zero, List.set_cons_succ]))
                          (refine takeL 11 (v := ?_) rfl (by kernel_rfl) (by kernel_rfl) (by kernel_rfl) (fun _ _ _ h => h) (Or.inl ⟨by rfl, ?_⟩) (by assumption) ?_; rotate_left; (focus (intro w9 hSw; (try dsimp only at hSw); go_simp; try with_reducible rfl)); (try simp only [Act.put, List.setIfInBounds_toArray, List.set_cons_zero, List.set_cons_succ]))
                          (refine takeL 12 (v := ?_) rfl (by kernel_rfl) (by kernel_rfl) (by kernel_rfl) (fun _ _ _ h => h) (Or.inl ⟨by rfl, ?_⟩) (by assumption) ?_; rotate_left; (focus (intro w9 hSw; (try dsimp only at hSw); go_simp; try with_reducible rfl)); (try simp only [Act.put, List.setIfInBounds_toArray, List.set_cons_zero, List.set_cons_succ]))
                          (refine takeL 13 (v := ?_) rfl (by kernel_rfl) (by kernel_rfl) (by kernel_rfl) (fun _ _ _ h => h) (Or.inl ⟨by rfl, ?_⟩) (by assumption) ?_; rotate_left; (focus (intro w9 hSw; (try dsimp only at hSw); go_simp; try with_reducible rfl)); (try simp only [Act.put, List.setIfInBounds_toArray, List.set_cons_zero, List.set_cons_succ]))
                          (refine takeL 14 (v := ?_) rfl (by kernel_rfl) (by kernel_rfl) (by kernel_rfl) (fun _ _ _ h => h) (Or.inl ⟨by rfl, ?_⟩) (by assumption) ?_; rotate_left; (focus (intro w9 hSw; (try dsimp only at hSw); go_simp; try with_reducible rfl)); (try simp only [Act.put, List.setIfInBounds_toArray, List.set_cons_zero, List.set_cons_succ]))
                          (refine takeL 15 (v := ?_) rfl (by kernel_rfl) (by kernel_rfl) (by kernel_rfl) (fun _ _ _ h => h) (Or.inl ⟨by rfl, ?_⟩) (by assumption) ?_; rotate_left; (focus (intro w9 hSw; (try dsimp only at hSw); go_simp; try with_reducible rfl)); (try simp only [Act.put, List.setIfInBounds_toArray, List.set_cons_zero, List.set_cons_succ]))
                          (refine takeL 16 (v := ?_) rfl (by kernel_rfl) (by kernel_rfl) (by kernel_rfl) (fun _ _ _ h => h) (Or.inl ⟨by rfl, ?_⟩) (by assumption) ?_; rotate_left; (focus (intro w9 hSw; (try dsimp only at hSw); go_simp; try with_reducible rfl)); (try simp only [Act.put, List.setIfInBounds_toArray, List.set_cons_zero, List.set_cons_succ]))
                          (refine takeL 17 (v := ?_) rfl (by kernel_rfl) (by kernel_rfl) (by kernel_rfl) (fun _ _ _ h => h) (Or.inl ⟨by rfl, ?_⟩) (by assumption) ?_; rotate_left; (focus (intro w9 hSw; (try dsimp only at hSw); go_simp; try with_reducible rfl)); (try simp only [Act.put, List.setIfInBounds_toArray, List.set_cons_zero, List.set_cons_succ]))
                          (refine takeL 18 (v := ?_) rfl (by kernel_rfl) (by kernel_rfl) (by kernel_rfl) (fun _ _ _ h => h) (Or.inl ⟨by rfl, ?_⟩) (by assumption) ?_; rotate_left; (focus (intro w9 hSw; (try dsimp only at hSw); go_simp; try with_reducible rfl)); (try simp only [Act.put, List.setIfInBounds_toArray, List.set_cons_zero, List.set_cons_succ]))
                          (refine takeL 19 (v := ?_) rfl (by kernel_rfl) (by kernel_rfl) (by kernel_rfl) (fun _ _ _ h => h) (Or.inl ⟨by rfl, ?_⟩) (by assumption) ?_; rotate_left; (focus (intro w9 hSw; (try dsimp only at hSw); go_simp; try with_reducible rfl)); (try simp only [Act.put, List.setIfInBounds_toArray, List.set_cons_zero, List.set_cons_succ]))
                          (refine takeL 20 (v := ?_) rfl (by kernel_rfl) (by kernel_rfl) (by kernel_rfl) (fun _ _ _ h => h) (Or.inl ⟨by rfl, ?_⟩) (by assumption) ?_; rotate_left; (focus (intro w9 hSw; (try dsimp only at hSw); go_simp; try with_reducible rfl)); (try simp only [Act.put, List.setIfInBounds_toArray, List.set_cons_zero, List.set_cons_succ]))
                          (refine takeL 21 (v := ?_) rfl (by kernel_rfl) (by kernel_rfl) (by kernel_rfl) (fun _ _ _ h => h) (Or.inl ⟨by rfl, ?_⟩) (by assumption) ?_; rotate_left; (focus (intro w9 hSw; (try dsimp only at hSw); go_simp; try with_reducible rfl)); (try simp only [Act.put, List.setIfInBounds_toArray, List.set_cons_zero, List.set_cons_succ]))
                          (refine takeL 22 (v := ?_) rfl (by kernel_rfl) (by kernel_rfl) (by kernel_rfl) (fun _ _ _ h => h) (Or.inl ⟨by rfl, ?_⟩) (by assumption) ?_; rotate_left; (focus (intro w9 hSw; (try dsimp only at hSw); go_simp; try with_reducible rfl)); (try simp only [Act.put, List.setIfInBounds_toArray, List.set_cons_zero, List.set_cons_succ]))
                          (refine takeL 23 (v := ?_) rfl (by kernel_rfl) (by kernel_rfl) (by kernel_rfl) (fun _ _ _ h => h) (Or.inl ⟨by rfl, ?_⟩) (by assumption) ?_; rotate_left; (focus (intro w9 hSw; (try dsimp only at hSw); go_simp; try with_reducible rfl)); (try simp only [Act.put, List.setIfInBounds_toArray, List.set_cons_zero, List.set_cons_succ]))
                          (refine takeL 24 (v := ?_) rfl (by kernel_rfl) (by kernel_rfl) (by kernel_rfl) (fun _ _ _ h => h) (Or.inl ⟨by rfl, ?_⟩) (by assumption) ?_; rotate_left; (focus (intro w9 hSw; (try dsimp only at hSw); go_simp; try with_reducible rfl)); (try simp only [Act.put, List.setIfInBounds_toArray, List.set_cons_zero, List.set_cons_succ]))
                          (refine takeL 25 (v := ?_) rfl (by kernel_rfl) (by kernel_rfl) (by kernel_rfl) (fun _ _ _ h => h) (Or.inl ⟨by rfl, ?_⟩) (by assumption) ?_; rotate_left; (focus (intro w9 hSw; (try dsimp only at hSw); go_simp; try with_reducible rfl)); (try simp only [Act.put, List.setIfInBounds_toArray, List.set_cons_zero, List.set_cons_succ]))
                          (refine takeL 26 (v := ?_) rfl (by kernel_rfl) (by kernel_rfl) (by kernel_rfl) (fun _ _ _ h => h) (Or.inl ⟨by rfl, ?_⟩) (by assumption) ?_; rotate_left; (focus (intro w9 hSw; (try dsimp only at hSw); go_simp; try with_reducible rfl)); (try simp only [Act.put, List.setIfInBounds_toArray, List.set_cons_zero, List.set_cons_succ]))
                          (refine takeL 27 (v := ?_) rfl (by kernel_rfl) (by kernel_rfl) (by kernel_rfl) (fun _ _ _ h => h) (Or.inl ⟨by rfl, ?_⟩) (by assumption) ?_; rotate_left; (focus (intro w9 hSw; (try dsimp only at hSw); go_simp; try with_reducible rfl)); (try simp only [Act.put, List.setIfInBounds_toArray, List.set_cons_zero, List.set_cons_succ]))
                          (refine takeL 28 (v := ?_) rfl (by kernel_rfl) (by kernel_rfl) (by kernel_rfl) (fun _ _ _ h => h) (Or.inl ⟨by rfl, ?_⟩) (by assumption) ?_; rotate_left; (focus (intro w9 hSw; (try dsimp only at hSw); go_simp; try with_reducible rfl)); (try simp only [Act.put, List.setIfInBounds_toArray, List.set_cons_zero, List.set_cons_succ]))
                          refine wpAnyH_done (by kernel_rfl) ?_ _
                          have cRf : W'.drew.frozen? ⟨w.heap.size + 1, 0, none⟩ = false := KR2.out
                          have cRc : W'.drew.cell? ⟨w.heap.size + 1, 0, none⟩ = some (.bool false) := KR3.out
                          generalize hWx : W'.drew = Wx at *
                          gi_wp2_with fail
                          subst hWx
                          exact ⟨keeps_drew ((KeepsOthers.setCell _ _ _).from _), rfl, upA_off hlt2 (by
                            rw [show Sn.2.getD pre2.length default = ⟨ec2, en2, ek2, em2, et2, eu2, eo2⟩ from by rw [List.getD_eq_getElem?_getD, HE2.out]; rfl]
                            intro e
                            obtain ⟨e1, e2⟩ := Prod.mk.inj e
                            first | exact hx2 e2 | exact hop2 e1)⟩
                      · have hxf := en_form hx2
                        gi_wp2_with fail
                        refine wpIn_region_heldR (fun w' => w'.cell? ⟨bK, 0, none⟩ = some (.int .i64 pre2.length) ∧ w'.cell? ⟨w2.heap.size, 0, none⟩ = some (.pointer (some ⟨gy, 0, none⟩)) ∧ w'.cell? ⟨gy, 2, none⟩ = some (.slice (some ⟨vb, voff, none⟩) Sn.2.length cv) ∧ w'.cell? ⟨gy, 1, none⟩ = some (.int .i64 Sn.1) ∧ w'.cell? ⟨Bx2, 0, none⟩ = some (.int .i64 ec2) ∧ w'.cell? ⟨Bx2, 1, none⟩ = some (.int .i64 en2) ∧ w'.cell? ⟨Bx2, 2, none⟩ = some (.int .i64 ek2) ∧ w'.cell? ⟨Bx2, 3, none⟩ = some (.string em2) ∧ w'.cell? ⟨Bx2, 4, none⟩ = some (.string et2) ∧ w'.cell? ⟨Bx2, 5, none⟩ = some (.int .i64 eu2) ∧ w'.cell? ⟨Bx2, 6, none⟩ = some (.int .i64 eo2) ∧ w'.cell? ⟨vb, voff + pre2.length * 7, none⟩ = some (.int .i64 xc2) ∧ w'.cell? ⟨vb, voff + pre2.length * 7 + 1, none⟩ = some (.int .i64 xn2) ∧ w'.cell? ⟨vb, voff + pre2.length * 7 + 2, none⟩ = some (.int .i64 xk2) ∧ w'.cell? ⟨vb, voff + pre2.length * 7 + 3, none⟩ = some (.string xm2) ∧ w'.cell? ⟨vb, voff + pre2.length * 7 + 4, none⟩ = some (.string xt2) ∧ w'.cell? ⟨vb, voff + pre2.length * 7 + 5, none⟩ = some (.int .i64 xu2) ∧ w'.cell? ⟨vb, voff + pre2.length * 7 + 6, none⟩ = some (.int .i64 xo2)) (by kernel_rfl) (by kernel_rfl) (by rintro ⟨_, _, h⟩; exact h) ⟨s0, s1, s2, s3, f0, f1, f2, f3, f4, f5, f6, g0, g1, g2, g3, g4, g5, g6⟩ (fun hHeld => ?_)
                        (refine takeL 0 (v := ?_) rfl (by kernel_rfl) (by kernel_rfl) (by kernel_rfl) (fun _ _ _ h => h) (Or.inl ⟨by rfl, ?_⟩) (by assumption) ?_; rotate_left; (focus (intro w9 hSw; (try dsimp only at hSw); go_simp; try with_reducible rfl)); (try simp only [Act.put, List.setIfInBounds_toArray, List.set_cons_zero, List.set_cons_succ]))
                        (refine takeL 1 (v := ?_) rfl (by kernel_rfl) (by kernel_rfl) (by kernel_rfl) (fun _ _ _ h => h) (Or.inl ⟨by rfl, ?_⟩) (by assumption) ?_; rotate_left; (focus (intro w9 hSw; (try dsimp only at hSw); go_simp; try with_reducible rfl)); (try simp only [Act.put, List.setIfInBounds_toArray, List.set_cons_zero, List.set_cons_succ]))
                        (refine takeL 2 (v := ?_) rfl (by kernel_rfl) (by kernel_rfl) (by kernel_rfl) (fun _ _ _ h => h) (Or.inl ⟨by rfl, ?_⟩) (by assumption) ?_; rotate_left; (focus (intro w9 hSw; (try dsimp only at hSw); go_simp; try with_reducible rfl)); (try simp only [Act.put, List.setIfInBounds_toArray, List.set_cons_zero, List.set_cons_succ]))
                        (refine takeL 3 (v := ?_) rfl (by kernel_rfl) (by kernel_rfl) (by kernel_rfl) (fun _ _ _ h => h) (Or.inl ⟨by rfl, ?_⟩) (by assumption) ?_; rotate_left; (focus (intro w9 hSw; (try dsimp only at hSw); go_simp; try with_reducible rfl)); (try simp only [Act.put, List.setIfInBounds_toArray, List.set_cons_zero, List.set_cons_succ]))
                        (refine takeL 4 (v := ?_) rfl (by kernel_rfl) (by kernel_rfl) (by kernel_rfl) (fun _ _ _ h => h) (Or.inl ⟨by rfl, ?_⟩) (by assumption) ?_; rotate_left; (focus (intro w9 hSw; (try dsimp only at hSw); go_simp; try with_reducible rfl)); (try simp only [Act.put, List.setIfInBounds_toArray, List.set_cons_zero, List.set_cons_succ]))
                        (refine takeL 5 (v := ?_) rfl (by kernel_rfl) (by kernel_rfl) (by kernel_rfl) (fun _ _ _ h => h) (Or.inl ⟨by rfl, ?_⟩) (by assumption) ?_; rotate_left; (focus (intro w9 hSw; (try dsimp only at hSw); go_simp; try with_reducible rfl)); (try simp only [Act.put, List.setIfInBounds_toArray, List.set_cons_zero, List.set_cons_succ]))
                        (refine takeL 6 (v := ?_) rfl (by kernel_rfl) (by kernel_rfl) (by kernel_rfl) (fun _ _ _ h => h) (Or.inl ⟨by rfl, ?_⟩) (by assumption) ?_; rotate_left; (focus (intro w9 hSw; (try dsimp only at hSw); go_simp; try with_reducible rfl)); (try simp only [Act.put, List.setIfInBounds_toArray, List.set_cons_zero, List.set_cons_succ]))
                        (refine takeL 7 (v := ?_) rfl (by kernel_rfl) (by kernel_rfl) (by kernel_rfl) (fun _ _ _ h => h) (Or.inl ⟨by rfl, ?_⟩) (by assumption) ?_; rotate_left; (focus (intro w9 hSw; (try dsimp only at hSw); go_simp; try with_reducible rfl)); (try simp only [Act.put, List.setIfInBounds_toArray, List.set_cons_zero, List.set_cons_succ]))
                        (refine takeL 8 (v := ?_) rfl (by kernel_rfl) (by kernel_rfl) (by kernel_rfl) (fun _ _ _ h => h) (Or.inl ⟨by rfl, ?_⟩) (by assumption) ?_; rotate_left; (focus (intro w9 hSw; (try dsimp only at hSw); go_simp; try with_reducible rfl)); (try simp only [Act.put, List.setIfInBounds_toArray, List.set_cons_zero, List.set_cons_succ]))
                        (refine takeL 9 (v := ?_) rfl (by kernel_rfl) (by kernel_rfl) (by kernel_rfl) (fun _ _ _ h => h) (Or.inl ⟨by rfl, ?_⟩) (by assumption) ?_; rotate_left; (focus (intro w9 hSw; (try dsimp only at hSw); go_simp; try with_reducible rfl)); (try simp only [Act.put, List.setIfInBounds_toArray, List.set_cons_zero, List.set_cons_succ]))
                        (refine takeL 10 (v := ?_) rfl (by kernel_rfl) (by kernel_rfl) (by kernel_rfl) (fun _ _ _ h => h) (Or.inl ⟨by rfl, ?_⟩) (by assumption) ?_; rotate_left; (focus (intro w9 hSw; (try dsimp only at hSw); go_simp; try with_reducible rfl)); (try simp only [Act.put, List.setIfInBounds_toArray, List.set_cons_zero, List.set_cons_succ]))
                        (refine takeL 11 (v := ?_) rfl (by kernel_rfl) (by kernel_rfl) (by kernel_rfl) (fun _ _ _ h => h) (Or.inl ⟨by rfl, ?_⟩) (by assumption) ?_; rotate_left; (focus (intro w9 hSw; (try dsimp only at hSw); go_simp; try with_reducible rfl)); (try simp only [Act.put, List.setIfInBounds_toArray, List.set_cons_zero, List.set_cons_succ]))
                        (refine takeL 12 (v := ?_) rfl (by kernel_rfl) (by kernel_rfl) (by kernel_rfl) (fun _ _ _ h => h) (Or.inl ⟨by rfl, ?_⟩) (by assumption) ?_; rotate_left; (focus (intro w9 hSw; (try dsimp only at hSw); go_simp; try with_reducible rfl)); (try simp only [Act.put, List.setIfInBounds_toArray, List.set_cons_zero, List.set_cons_succ]))
                        (refine takeL 13 (v := ?_) rfl (by kernel_rfl) (by kernel_rfl) (by kernel_rfl) (fun _ _ _ h => h) (Or.inl ⟨by rfl, ?_⟩) (by assumption) ?_; rotate_left; (focus (intro w9 hSw; (try dsimp only at hSw); go_simp; try with_reducible rfl)); (try simp only [Act.put, List.setIfInBounds_toArray, List.set_cons_zero, List.set_cons_succ]))
                        (refine takeL 14 (v := ?_) rfl (by kernel_rfl) (by kernel_rfl) (by kernel_rfl) (fun _ _ _ h => h) (Or.inl ⟨by rfl, ?_⟩) (by assumption) ?_; rotate_left; (focus (intro w9 hSw; (try dsimp only at hSw); go_simp; try with_reducible rfl)); (try simp only [Act.put, List.setIfInBounds_toArray, List.set_cons_zero, List.set_cons_succ]))
                        (refine takeL 15 (v := ?_) rfl (by kernel_rfl) (by kernel_rfl) (by kernel_rfl) (fun _ _ _ h => h) (Or.inl ⟨by rfl, ?_⟩) (by assumption) ?_; rotate_left; (focus (intro w9 hSw; (try dsimp only at hSw); go_simp; try with_reducible rfl)); (try simp only [Act.put, List.setIfInBounds_toArray, List.set_cons_zero, List.set_cons_succ]))
                        (refine takeL 16 (v := .bool true) rfl (by kernel_rfl) (by kernel_rfl) (by kernel_rfl) (fun _ _ _ h => h) (Or.inl ⟨by rfl, ?_⟩) (by assumption) ?_; (focus (intro w9 hSw; (try dsimp only at hSw); go_simp; exact hxf)); (try simp only [Act.put, List.setIfInBounds_toArray, List.set_cons_zero, List.set_cons_succ]))
                        (refine takeL 17 (v := ?_) rfl (by kernel_rfl) (by kernel_rfl) (by kernel_rfl) (fun _ _ _ h => h) (Or.inl ⟨by rfl, ?_⟩) (by assumption) ?_; rotate_left; (focus (intro w9 hSw; (try dsimp only at hSw); go_simp; try with_reducible rfl)); (try simp only [Act.put, List.setIfInBounds_toArray, List.set_cons_zero, List.set_cons_succ]))
                        (refine takeL 18 (v := ?_) rfl (by kernel_rfl) (by kernel_rfl) (by kernel_rfl) (fun _ _ _ h => h) (Or.inl ⟨by rfl, ?_⟩) (by assumption) ?_; rotate_left; (focus (intro w9 hSw; (try dsimp only at hSw); go_simp; try with_reducible rfl)); (try simp only [Act.put, List.setIfInBounds_toArray, List.set_cons_zero, List.set_cons_succ]))
                        (refine takeL 19 (v := undef) rfl (by kernel_rfl) (by kernel_rfl) (by kernel_rfl) (fun _ _ _ h => h) (Or.inr ⟨by rfl, rfl⟩) (by assumption) ?_; (try simp only [Act.put, List.setIfInBounds_toArray, List.set_cons_zero, List.set_cons_succ]))
                        (refine takeL 20 (v := undef) rfl (by kernel_rfl) (by kernel_rfl) (by kernel_rfl) (fun _ _ _ h => h) (Or.inr ⟨by rfl, rfl⟩) (by assumption) ?_; (try simp only [Act.put, List.setIfInBounds_toArray, List.set_cons_zero, List.set_cons_succ]))
                        (refine takeL 21 (v := undef) rfl (by kernel_rfl) (by kernel_rfl) (by kernel_rfl) (fun _ _ _ h => h) (Or.inr ⟨by rfl, rfl⟩) (by assumption) ?_; (try simp only [Act.put, List.setIfInBounds_toArray, List.set_cons_zero, List.set_cons_succ]))
                        (refine takeL 22 (v := undef) rfl (by kernel_rfl) (by kernel_rfl) (by kernel_rfl) (fun _ _ _ h => h) (Or.inr ⟨by rfl, rfl⟩) (by assumption) ?_; (try simp only [Act.put, List.setIfInBounds_toArray, List.set_cons_zero, List.set_cons_succ]))
                        (refine takeL 23 (v := undef) rfl (by kernel_rfl) (by kernel_rfl) (by kernel_rfl) (fun _ _ _ h => h) (Or.inr ⟨by rfl, rfl⟩) (by assumption) ?_; (try simp only [Act.put, List.setIfInBounds_toArray, List.set_cons_zero, List.set_cons_succ]))
                        (refine takeL 24 (v := undef) rfl (by kernel_rfl) (by kernel_rfl) (by kernel_rfl) (fun _ _ _ h => h) (Or.inr ⟨by rfl, rfl⟩) (by assumption) ?_; (try simp only [Act.put, List.setIfInBounds_toArray, List.set_cons_zero, List.set_cons_succ]))
                        (refine takeL 25 (v := undef) rfl (by kernel_rfl) (by kernel_rfl) (by kernel_rfl) (fun _ _ _ h => h) (Or.inr ⟨by rfl, rfl⟩) (by assumption) ?_; (try simp only [Act.put, List.setIfInBounds_toArray, List.set_cons_zero, List.set_cons_succ]))
                        (refine takeL 26 (v := undef) rfl (by kernel_rfl) (by kernel_rfl) (by kernel_rfl) (fun _ _ _ h => h) (Or.inr ⟨by rfl, rfl⟩) (by assumption) ?_; (try simp only [Act.put, List.setIfInBounds_toArray, List.set_cons_zero, List.set_cons_succ]))
                        (refine takeL 27 (v := undef) rfl (by kernel_rfl) (by kernel_rfl) (by kernel_rfl) (fun _ _ _ h => h) (Or.inr ⟨by rfl, rfl⟩) (by assumption) ?_; (try simp only [Act.put, List.setIfInBounds_toArray, List.set_cons_zero, List.set_cons_succ]))
                        (refine takeL 28 (v := ?_) rfl (by kernel_rfl) (by kernel_rfl) (by kernel_rfl) (fun _ _ _ h => h) (Or.inl ⟨by rfl, ?_⟩) (by assumption) ?_; rotate_left; (focus (intro w9 hSw; (try dsimp only at hSw); go_simp; try with_reducible rfl)); (try simp only [Act.put, List.setIfInBounds_toArray, List.set_cons_zero, List.set_cons_succ]))
                        refine wpAnyH_done (by kernel_rfl) ?_ _
                        have cRf : W'.drew.frozen? ⟨w.heap.size + 1, 0, none⟩ = false := KR2.out
                        have cRc : W'.drew.cell? ⟨w.heap.size + 1, 0, none⟩ = some (.bool false) := KR3.out
                        generalize hWx : W'.drew = Wx at *
                        gi_wp2_with fail
                        subst hWx
                        exact ⟨keeps_drew ((KeepsOthers.setCell _ _ _).from _), rfl, upA_off hlt2 (by
                          rw [show Sn.2.getD pre2.length default = ⟨xc2, xn2, xk2, xm2, xt2, xu2, xo2⟩ from by rw [List.getD_eq_getElem?_getD, HE2.out]; rfl]
                          intro e
                          obtain ⟨e1, e2⟩ := Prod.mk.inj e
                          first | exact hx2 e2 | exact hop2 e1)⟩
                    case done2 =>
                      rintro xs W' hS ⟨hpre2, hsz2, ht2⟩
                      have hsub := HACT2.out
                      subst hsub
                      have hlx : xs.length = Sn.2.length := by rw [hS, upA_len]
                      obtain ⟨-, -, -, kY2, -, -, -, kI2, -, -⟩ := boxes HR0.out HR1.out HRD.out.2.2 ht2.now.2.1
                      obtain ⟨Av, cv, hv2⟩ := rO_slice (fO_hy ht2.now.2.1)
                      have d0 : W'.cell? ⟨bK, 0, none⟩ = some (.int .i64 Sn.2.length) := by have := Blk.cell ht2.now.1 0; rw [hlx] at this; exact this
                      have d1 : W'.cell? ⟨w2.heap.size, 0, none⟩ = some (.pointer (some ⟨gy, 0, none⟩)) := kY2.cell 0
                      have d2 : W'.cell? ⟨gy, 2, none⟩ = some (.slice Av Sn.2.length cv) := by rw [← hv2]; exact (rO_cells (fO_hy ht2.now.2.1)).2.2
                      have e1 : W'.drew.cell? ⟨bI, 0, none⟩ = some (.int .i64 pre.length) := kI2.cell 0
                      have e2 : W'.drew.frozen? ⟨bI, 0, none⟩ = false := kI2.frozen 0
                      have HTF := Lib.hid ht2.dropL
                      have hwi : IntKind.i64.wrap ((pre.length : Int) + 1) = (pre.length : Int) + 1 := IntWalk.i64_in _ (by omega)
                      clear ht2 kY2 kI2 hv2 hact2 HACT2 hpre2 hS
                      gi_wp2_with fail
                      refine wpIn_region_heldR (fun w' => w'.cell? ⟨bK, 0, none⟩ = some (.int .i64 Sn.2.length) ∧ w'.cell? ⟨w2.heap.size, 0, none⟩ = some (.pointer (some ⟨gy, 0, none⟩)) ∧ w'.cell? ⟨gy, 2, none⟩ = some (.slice Av Sn.2.length cv)) (by kernel_rfl) (by kernel_rfl) (by rintro ⟨_, _, h⟩; exact h) ⟨d0, d1, d2⟩ (fun hHeld => ?_)
                      (refine takeL 0 (v := ?_) rfl (by kernel_rfl) (by kernel_rfl) (by kernel_rfl) (fun _ _ _ h => h) (Or.inl ⟨by rfl, ?_⟩) (by assumption) ?_; rotate_left; (focus (intro w9 hSw; (try dsimp only at hSw); go_simp; try with_reducible rfl)); (try simp only [Act.put, List.setIfInBounds_toArray, List.set_cons_zero, List.set_cons_succ]))
                      (refine takeL 1 (v := ?_) rfl (by kernel_rfl) (by kernel_rfl) (by kernel_rfl) (fun _ _ _ h => h) (Or.inl ⟨by rfl, ?_⟩) (by assumption) ?_; rotate_left; (focus (intro w9 hSw; (try dsimp only at hSw); go_simp; try with_reducible rfl)); (try simp only [Act.put, List.setIfInBounds_toArray, List.set_cons_zero, List.set_cons_succ]))
                      (refine takeL 2 (v := ?_) rfl (by kernel_rfl) (by kernel_rfl) (by kernel_rfl) (fun _ _ _ h => h) (Or.inl ⟨by rfl, ?_⟩) (by assumption) ?_; rotate_left; (focus (intro w9 hSw; (try dsimp only at hSw); go_simp; try with_reducible rfl)); (try simp only [Act.put, List.setIfInBounds_toArray, List.set_cons_zero, List.set_cons_succ]))
                      (refine takeL 3 (v := ?_) rfl (by kernel_rfl) (by kernel_rfl) (by kernel_rfl) (fun _ _ _ h => h) (Or.inl ⟨by rfl, ?_⟩) (by assumption) ?_; rotate_left; (focus (intro w9 hSw; (try dsimp only at hSw); go_simp; try with_reducible rfl)); (try simp only [Act.put, List.setIfInBounds_toArray, List.set_cons_zero, List.set_cons_succ]))
                      (refine takeL 4 (v := ?_) rfl (by kernel_rfl) (by kernel_rfl) (by kernel_rfl) (fun _ _ _ h => h) (Or.inl ⟨by rfl, ?_⟩) (by assumption) ?_; rotate_left; (focus (intro w9 hSw; (try dsimp only at hSw); go_simp; try with_reducible rfl)); (try simp only [Act.put, List.setIfInBounds_toArray, List.set_cons_zero, List.set_cons_succ]))
                      (refine takeL 5 (v := ?_) rfl (by kernel_rfl) (by kernel_rfl) (by kernel_rfl) (fun _ _ _ h => h) (Or.inl ⟨by rfl, ?_⟩) (by assumption) ?_; rotate_left; (focus (intro w9 hSw; (try dsimp only at hSw); go_simp; try with_reducible rfl)); (try simp only [Act.put, List.setIfInBounds_toArray, List.set_cons_zero, List.set_cons_succ]))
                      (refine takeL 6 (v := ?_) rfl (by kernel_rfl) (by kernel_rfl) (by kernel_rfl) (fun _ _ _ h => h) (Or.inl ⟨by rfl, ?_⟩) (by assumption) ?_; rotate_left; (focus (intro w9 hSw; (try dsimp only at hSw); go_simp; try with_reducible rfl)); (try simp only [Act.put, List.setIfInBounds_toArray, List.set_cons_zero, List.set_cons_succ]))
                      refine wpAnyH_done (by kernel_rfl) ?_ _
                      clear d0 d1 d2 hHeld
                      generalize hWx : W'.drew = Wx at *
                      gi_wp2_with fail
                      subst hWx
                      have t2 := HTF.out.trans ((bump ((pre.length : Int) + 1) (show _ from HTF.out.drew.now)).drewl)
                      obtain ⟨k1, k2⟩ := round_kept HT5.out.now HRC.out HTW.out.now t2
                      refine ⟨k1, k2, ?_, ?_, v2, ?_⟩
                      · have hn := upA_next HPRE.out hlt
                        rw [show A.2.getD pre.length default = ⟨ec, en, ek, em, et, eu, eo⟩ from by rw [List.getD_eq_getElem?_getD, HE0.out]; rfl] at hn
                        exact hn
                      · exact Nat.le_trans hsz t2.chg.size
                      · have ht := HTW.out.trans t2
                        rw [List.length_append, List.length_singleton, ← HSN.out]
                        exact ht
                    case stop2 =>
                      intro c pre2 W' hp hx
                      exact absurd hp hx.2
              · have hda : decide ((pre.length : Int) < (n2 : Int)) = false := by have := HN2.out; simp; omega
                have hda' : decide (pre.length < n2) = false := by have := HN2.out; simp; omega
                have q5 : W.drew.cell? ⟨w.heap.size, 0, none⟩ = some (.slice A2 n2 c2) := KT.out
                have q16 : W.drew.cell? ⟨bI, 0, none⟩ = some (.int .i64 pre.length) := c16
                have q16f : W.drew.frozen? ⟨bI, 0, none⟩ = false := KI.out
                clear c16 c15 c14 f0 f1 f2 f3 f4 f5 f6 g0 g1 g2 g3 g4 g5 g6 hHeld hw1 hw2 hjd hjd'
                have HTD := Lib.hid (HTW.out.drew)
                generalize hWd : W.drew = Wd at *
                have hwi : IntKind.i64.wrap ((pre.length : Int) + 1) = (pre.length : Int) + 1 := IntWalk.i64_in _ (by omega)
                gi_wp2_with fail
                subst hWd
                have t := (bump ((pre.length : Int) + 1) (show _ from HTW.out.drew.now)).drewl
                obtain ⟨k1, k2⟩ := round_kept HT5.out.now HRC.out HTW.out.now t
                refine ⟨k1, k2, ?_, ?_, v, ?_⟩
                · have hn := upA_next HPRE.out hlt
                  rw [show A.2.getD pre.length default = ⟨ec, en, ek, em, et, eu, eo⟩ from by rw [List.getD_eq_getElem?_getD, HE0.out]; rfl] at hn
                  exact hn
                · exact Nat.le_trans hsz t.chg.size
                · have ht := HTW.out.trans t
                  rw [List.length_append, List.length_singleton, stt_end (show acts.length ≤ pre.length by omega)]
                  exact ht
            · obtain ⟨rfl, rfl, rfl, rfl, rfl, rfl, rfl⟩ := En.mk.inj hx
              clear hx
              gi_wp2_with fail
              refine wpIn_region_heldR (fun w' => w'.cell? ⟨bI, 0, none⟩ = some (.int .i64 pre.length) ∧ w'.cell? ⟨b15, 0, none⟩ = some (.slice (some ⟨wb, woff, none⟩) A.2.length cc) ∧ w'.cell? ⟨b14, 0, none⟩ = some (.int .i64 A.1) ∧ w'.cell? ⟨Bx, 0, none⟩ = some (.int .i64 ec) ∧ w'.cell? ⟨Bx, 1, none⟩ = some (.int .i64 en) ∧ w'.cell? ⟨Bx, 2, none⟩ = some (.int .i64 ek) ∧ w'.cell? ⟨Bx, 3, none⟩ = some (.string em) ∧ w'.cell? ⟨Bx, 4, none⟩ = some (.string et) ∧ w'.cell? ⟨Bx, 5, none⟩ = some (.int .i64 eu) ∧ w'.cell? ⟨Bx, 6, none⟩ = some (.int .i64 eo) ∧ w'.cell? ⟨wb, woff + pre.length * 7, none⟩ = some (.int .i64 ec) ∧ w'.cell? ⟨wb, woff + pre.length * 7 + 1, none⟩ = some (.int .i64 en) ∧ w'.cell? ⟨wb, woff + pre.length * 7 + 2, none⟩ = some (.int .i64 ek) ∧ w'.cell? ⟨wb, woff + pre.length * 7 + 3, none⟩ = some (.string em) ∧ w'.cell? ⟨wb, woff + pre.length * 7 + 4, none⟩ = some (.string et) ∧ w'.cell? ⟨wb, woff + pre.length * 7 + 5, none⟩ = some (.int .i64 eu) ∧ w'.cell? ⟨wb, woff + pre.length * 7 + 6, none⟩ = some (.int .i64 eo)) (by kernel_rfl) (by kernel_rfl) (by rintro ⟨_, _, h⟩; exact h) ⟨c16, c15, c14, f0, f1, f2, f3, f4, f5, f6, g0, g1, g2, g3, g4, g5, g6⟩ (fun hHeld => ?_)
              (refine takeL 0 (v := ?_) rfl (by kernel_rfl) (by kernel_rfl) (by kernel_rfl) (fun _ _ _ h => h) (Or.inl ⟨by rfl, ?_⟩) (by assumption) ?_; rotate_left; (focus (intro w9 hSw; (try dsimp only at hSw); go_simp; try with_reducible rfl)); (try simp only [Act.put, List.setIfInBounds_toArray, List.set_cons_zero, List.set_cons_succ]))
              (refine takeL 1 (v := ?_) rfl (by kernel_rfl) (by kernel_rfl) (by kernel_rfl) (fun _ _ _ h => h) (Or.inl ⟨by rfl, ?_⟩) (by assumption) ?_; rotate_left; (focus (intro w9 hSw; (try dsimp only at hSw); go_simp; try with_reducible rfl)); (try simp only [Act.put, List.setIfInBounds_toArray, List.set_cons_zero, List.set_cons_succ]))
              (refine takeL 2 (v := ?_) rfl (by kernel_rfl) (by kernel_rfl) (by kernel_rfl) (fun _ _ _ h => h) (Or.inl ⟨by rfl, ?_⟩) (by assumption) ?_; rotate_left; (focus (intro w9 hSw; (try dsimp only at hSw); go_simp; try with_reducible rfl)); (try simp only [Act.put, List.setIfInBounds_toArray, List.set_cons_zero, List.set_cons_succ]))
              (refine takeL 3 (v := ?_) rfl (by kernel_rfl) (by kernel_rfl) (by kernel_rfl) (fun _ _ _ h => h) (Or.inl ⟨by rfl, ?_⟩) (by assumption) ?_; rotate_left; (focus (intro w9 hSw; (try dsimp only at hSw); go_simp; try with_reducible rfl)); (try simp only [Act.put, List.setIfInBounds_toArray, List.set_cons_zero, List.set_cons_succ]))
              (refine takeL 4 (v := ?_) rfl (by kernel_rfl) (by kernel_rfl) (by kernel_rfl) (fun _ _ _ h => h) (Or.inl ⟨by rfl, ?_⟩) (by assumption) ?_; rotate_left; (focus (intro w9 hSw; (try dsimp only at hSw); go_simp; try with_reducible rfl)); (try simp only [Act.put, List.setIfInBounds_toArray, List.set_cons_zero, List.set_cons_succ]))
              (refine takeL 5 (v := ?_) rfl (by kernel_rfl) (by kernel_rfl) (by kernel_rfl) (fun _ _ _ h => h) (Or.inl ⟨by rfl, ?_⟩) (by assumption) ?_; rotate_left; (focus (intro w9 hSw; (try dsimp only at hSw); go_simp; try with_reducible rfl)); (try simp only [Act.put, List.setIfInBounds_toArray, List.set_cons_zero, List.set_cons_succ]))
              (refine takeL 6 (v := ?_) rfl (by kernel_rfl) (by kernel_rfl) (by kernel_rfl) (fun _ _ _ h => h) (Or.inl ⟨by rfl, ?_⟩) (by assumption) ?_; rotate_left; (focus (intro w9 hSw; (try dsimp only at hSw); go_simp; try with_reducible rfl)); (try simp only [Act.put, List.setIfInBounds_toArray, List.set_cons_zero, List.set_cons_succ]))
              (refine takeL 7 (v := ?_) rfl (by kernel_rfl) (by kernel_rfl) (by kernel_rfl) (fun _ _ _ h => h) (Or.inl ⟨by rfl, ?_⟩) (by assumption) ?_; rotate_left; (focus (intro w9 hSw; (try dsimp only at hSw); go_simp; try with_reducible rfl)); (try simp only [Act.put, List.setIfInBounds_toArray, List.set_cons_zero, List.set_cons_succ]))
              (refine takeL 8 (v := ?_) rfl (by kernel_rfl) (by kernel_rfl) (by kernel_rfl) (fun _ _ _ h => h) (Or.inl ⟨by rfl, ?_⟩) (by assumption) ?_; rotate_left; (focus (intro w9 hSw; (try dsimp only at hSw); go_simp; try with_reducible rfl)); (try simp only [Act.put, List.setIfInBounds_toArray, List.set_cons_zero, List.set_cons_succ]))
              (refine takeL 9 (v := ?_) rfl (by kernel_rfl) (by kernel_rfl) (by kernel_rfl) (fun _ _ _ h => h) (Or.inl ⟨by rfl, ?_⟩) (by assumption) ?_; rotate_left; (focus (intro w9 hSw; (try dsimp only at hSw); go_simp; try with_reducible rfl)); (try simp only [Act.put, List.setIfInBounds_toArray, List.set_cons_zero, List.set_cons_succ]))
              (refine takeL 10 (v := ?_) rfl (by kernel_rfl) (by kernel_rfl) (by kernel_rfl) (fun _ _ _ h => h) (Or.inl ⟨by rfl, ?_⟩) (by assumption) ?_; rotate_left; (focus (intro w9 hSw; (try dsimp only at hSw); go_simp; try with_reducible rfl)); (try simp only [Act.put, List.setIfInBounds_toArray, List.set_cons_zero, List.set_cons_succ]))
              (refine takeL 11 (v := ?_) rfl (by kernel_rfl) (by kernel_rfl) (by kernel_rfl) (fun _ _ _ h => h) (Or.inl ⟨by rfl, ?_⟩) (by assumption) ?_; rotate_left; (focus (intro w9 hSw; (try dsimp only at hSw); go_simp; try with_reducible rfl)); (try simp only [Act.put, List.setIfInBounds_toArray, List.set_cons_zero, List.set_cons_succ]))
              (refine takeL 12 (v := ?_) rfl (by kernel_rfl) (by kernel_rfl) (by kernel_rfl) (fun _ _ _ h => h) (Or.inl ⟨by rfl, ?_⟩) (by assumption) ?_; rotate_left; (focus (intro w9 hSw; (try dsimp only at hSw); go_simp; try with_reducible rfl)); (try simp only [Act.put, List.setIfInBounds_toArray, List.set_cons_zero, List.set_cons_succ]))
              (refine takeL 13 (v := ?_) rfl (by kernel_rfl) (by kernel_rfl) (by kernel_rfl) (fun _ _ _ h => h) (Or.inl ⟨by rfl, ?_⟩) (by assumption) ?_; rotate_left; (focus (intro w9 hSw; (try dsimp only at hSw); go_simp; try with_reducible rfl)); (try simp only [Act.put, List.setIfInBounds_toArray, List.set_cons_zero, List.set_cons_succ]))
              (refine takeL 14 (v := ?_) rfl (by kernel_rfl) (by kernel_rfl) (by kernel_rfl) (fun _ _ _ h => h) (Or.inl ⟨by rfl, ?_⟩) (by assumption) ?_; rotate_left; (focus (intro w9 hSw; (try dsimp only at hSw); go_simp; try with_reducible rfl)); (try simp only [Act.put, List.setIfInBounds_toArray, List.set_cons_zero, List.set_cons_succ]))
              (refine takeL 15 (v := ?_) rfl (by kernel_rfl) (by kernel_rfl) (by kernel_rfl) (fun _ _ _ h => h) (Or.inl ⟨by rfl, ?_⟩) (by assumption) ?_; rotate_left; (focus (intro w9 hSw; (try dsimp only at hSw); go_simp; try with_reducible rfl)); (try simp only [Act.put, List.setIfInBounds_toArray, List.set_cons_zero, List.set_cons_succ]))
              (refine takeL 16 (v := ?_) rfl (by kernel_rfl) (by kernel_rfl) (by kernel_rfl) (fun _ _ _ h => h) (Or.inl ⟨by rfl, ?_⟩) (by assumption) ?_; rotate_left; (focus (intro w9 hSw; (try dsimp only at hSw); go_simp; try with_reducible rfl)); (try simp only [Act.put, List.setIfInBounds_toArray, List.set_cons_zero, List.set_cons_succ]))
              (refine takeL 17 (v := ?_) rfl (by kernel_rfl) (by kernel_rfl) (by kernel_rfl) (fun _ _ _ h => h) (Or.inl ⟨by rfl, ?_⟩) (by assumption) ?_; rotate_left; (focus (intro w9 hSw; (try dsimp only at hSw); go_simp; try with_reducible rfl)); (try simp only [Act.put, List.setIfInBounds_toArray, List.set_cons_zero, List.set_cons_succ]))
              (refine takeL 18 (v := ?_) rfl (by kernel_rfl) (by kernel_rfl) (by kernel_rfl) (fun _ _ _ h => h) (Or.inl ⟨by rfl, ?_⟩) (by assumption) ?_; rotate_left; (focus (intro w9 hSw; (try dsimp only at hSw); go_simp; try with_reducible rfl)); (try simp only [Act.put, List.setIfInBounds_toArray, List.set_cons_zero, List.set_cons_succ]))
              (refine takeL 19 (v := ?_) rfl (by kernel_rfl) (by kernel_rfl) (by kernel_rfl) (fun _ _ _ h => h) (Or.inl ⟨by rfl, ?_⟩) (by assumption) ?_; rotate_left; (focus (intro w9 hSw; (try dsimp only at hSw); go_simp; try with_reducible rfl)); (try simp only [Act.put, List.setIfInBounds_toArray, List.set_cons_zero, List.set_cons_succ]))
              refine wpAnyH_done (by kernel_rfl) ?_ _
              have cRf : W.drew.frozen? ⟨w.heap.size + 1, 0, none⟩ = false := KR.out
              have cRc : W.drew.cell? ⟨w.heap.size + 1, 0, none⟩ = some (.bool false) := KR1.out
              generalize hWd : W.drew = Wd at *
              gi_wp2_with fail
              subst hWd
              exact ⟨keeps_drew ((KeepsOthers.setCell _ _ _).from _), rfl, upA_off hlt (by
                rw [show A.2.getD pre.length default = ⟨ec, en, ek, em, et, eu, eo⟩ from by rw [List.getD_eq_getElem?_getD, HE0.out]; rfl]
                intro e
                obtain ⟨e1, e2⟩ := Prod.mk.inj e
                first | exact hx e2 | exact hop e1)⟩
          · have hxf := en_form hx
            gi_wp2_with fail
            refine wpIn_region_heldR (fun w' => w'.cell? ⟨bI, 0, none⟩ = some (.int .i64 pre.length) ∧ w'.cell? ⟨b15, 0, none⟩ = some (.slice (some ⟨wb, woff, none⟩) A.2.length cc) ∧ w'.cell? ⟨b14, 0, none⟩ = some (.int .i64 A.1) ∧ w'.cell? ⟨Bx, 0, none⟩ = some (.int .i64 ec) ∧ w'.cell? ⟨Bx, 1, none⟩ = some (.int .i64 en) ∧ w'.cell? ⟨Bx, 2, none⟩ = some (.int .i64 ek) ∧ w'.cell? ⟨Bx, 3, none⟩ = some (.string em) ∧ w'.cell? ⟨Bx, 4, none⟩ = some (.string et) ∧ w'.cell? ⟨Bx, 5, none⟩ = some (.int .i64 eu) ∧ w'.cell? ⟨Bx, 6, none⟩ = some (.int .i64 eo) ∧ w'.cell? ⟨wb, woff + pre.length * 7, none⟩ = some (.int .i64 xc) ∧ w'.cell? ⟨wb, woff + pre.length * 7 + 1, none⟩ = some (.int .i64 xn) ∧ w'.cell? ⟨wb, woff + pre.length * 7 + 2, none⟩ = some (.int .i64 xk) ∧ w'.cell? ⟨wb, woff + pre.length * 7 + 3, none⟩ = some (.string xm) ∧ w'.cell? ⟨wb, woff + pre.length * 7 + 4, none⟩ = some (.string xt) ∧ w'.cell? ⟨wb, woff + pre.length * 7 + 5, none⟩ = some (.int .i64 xu) ∧ w'.cell? ⟨wb, woff + pre.length * 7 + 6, none⟩ = some (.int .i64 xo)) (by kernel_rfl) (by kernel_rfl) (by rintro ⟨_, _, h⟩; exact h) ⟨c16, c15, c14, f0, f1, f2, f3, f4, f5, f6, g0, g1, g2, g3, g4, g5, g6⟩ (fun hHeld => ?_)
            (refine takeL 0 (v := ?_) rfl (by kernel_rfl) (by kernel_rfl) (by kernel_rfl) (fun _ _ _ h => h) (Or.inl ⟨by rfl, ?_⟩) (by assumption) ?_; rotate_left; (focus (intro w9 hSw; (try dsimp only at hSw); go_simp; try with_reducible rfl)); (try simp only [Act.put, List.setIfInBounds_toArray, List.set_cons_zero, List.set_cons_succ]))
            (refine takeL 1 (v := ?_) rfl (by kernel_rfl) (by kernel_rfl) (by kernel_rfl) (fun _ _ _ h => h) (Or.inl ⟨by rfl, ?_⟩) (by assumption) ?_; rotate_left; (focus (intro w9 hSw; (try dsimp only at hSw); go_simp; try with_reducible rfl)); (try simp only [Act.put, List.setIfInBounds_toArray, List.set_cons_zero, List.set_cons_succ]))
            (refine takeL 2 (v := ?_) rfl (by kernel_rfl) (by kernel_rfl) (by kernel_rfl) (fun _ _ _ h => h) (Or.inl ⟨by rfl, ?_⟩) (by assumption) ?_; rotate_left; (focus (intro w9 hSw; (try dsimp only at hSw); go_simp; try with_reducible rfl)); (try simp only [Act.put, List.setIfInBounds_toArray, List.set_cons_zero, List.set_cons_succ]))
            (refine takeL 3 (v := ?_) rfl (by kernel_rfl) (by kernel_rfl) (by kernel_rfl) (fun _ _ _ h => h) (Or.inl ⟨by rfl, ?_⟩) (by assumption) ?_; rotate_left; (focus (intro w9 hSw; (try dsimp only at hSw); go_simp; try with_reducible rfl)); (try simp only [Act.put, List.setIfInBounds_toArray, List.set_cons_zero, List.set_cons_succ]))
            (refine takeL 4 (v := ?_) rfl (by kernel_rfl) (by kernel_rfl) (by kernel_rfl) (fun _ _ _ h => h) (Or.inl ⟨by rfl, ?_⟩) (by assumption) ?_; rotate_left; (focus (intro w9 hSw; (try dsimp only at hSw); go_simp; try with_reducible rfl)); (try simp only [Act.put, List.setIfInBounds_toArray, List.set_cons_zero, List.set_cons_succ]))
            (refine takeL 5 (v := ?_) rfl (by kernel_rfl) (by kernel_rfl) (by kernel_rfl) (fun _ _ _ h => h) (Or.inl ⟨by rfl, ?_⟩) (by assumption) ?_; rotate_left; (focus (intro w9 hSw; (try dsimp only at hSw); go_simp; try with_reducible rfl)); (try simp only [Act.put, List.setIfInBounds_toArray, List.set_cons_zero, List.set_cons_succ]))
            (refine takeL 6 (v := ?_) rfl (by kernel_rfl) (by kernel_rfl) (by kernel_rfl) (fun _ _ _ h => h) (Or.inl ⟨by rfl, ?_⟩) (by assumption) ?_; rotate_left; (focus (intro w9 hSw; (try dsimp only at hSw); go_simp; try with_reducible rfl)); (try simp only [Act.put, List.setIfInBounds_toArray, List.set_cons_zero, List.set_cons_succ]))
            (refine takeL 7 (v := ?_) rfl (by kernel_rfl) (by kernel_rfl) (by kernel_rfl) (fun _ _ _ h => h) (Or.inl ⟨by rfl, ?_⟩) (by assumption) ?_; rotate_left; (focus (intro w9 hSw; (try dsimp only at hSw); go_simp; try with_reducible rfl)); (try simp only [Act.put, List.setIfInBounds_toArray, List.set_cons_zero, List.set_cons_succ]))
            (refine takeL 8 (v := ?_) rfl (by kernel_rfl) (by kernel_rfl) (by kernel_rfl) (fun _ _ _ h => h) (Or.inl ⟨by rfl, ?_⟩) (by assumption) ?_; rotate_left; (focus (intro w9 hSw; (try dsimp only at hSw); go_simp; try with_reducible rfl)); (try simp only [Act.put, List.setIfInBounds_toArray, List.set_cons_zero, List.set_cons_succ]))
            (refine takeL 9 (v := ?_) rfl (by kernel_rfl) (by kernel_rfl) (by kernel_rfl) (fun _ _ _ h => h) (Or.inl ⟨by rfl, ?_⟩) (by assumption) ?_; rotate_left; (focus (intro w9 hSw; (try dsimp only at hSw); go_simp; try with_reducible rfl)); (try simp only [Act.put, List.setIfInBounds_toArray, List.set_cons_zero, List.set_cons_succ]))
            (refine takeL 10 (v := .bool true) rfl (by kernel_rfl) (by kernel_rfl) (by kernel_rfl) (fun _ _ _ h => h) (Or.inl ⟨by rfl, ?_⟩) (by assumption) ?_; (focus (intro w9 hSw; (try dsimp only at hSw); go_simp; exact hxf)); (try simp only [Act.put, List.setIfInBounds_toArray, List.set_cons_zero, List.set_cons_succ]))
            (refine takeL 11 (v := ?_) rfl (by kernel_rfl) (by kernel_rfl) (by kernel_rfl) (fun _ _ _ h => h) (Or.inl ⟨by rfl, ?_⟩) (by assumption) ?_; rotate_left; (focus (intro w9 hSw; (try dsimp only at hSw); go_simp; try with_reducible rfl)); (try simp only [Act.put, List.setIfInBounds_toArray, List.set_cons_zero, List.set_cons_succ]))
            (refine takeL 12 (v := ?_) rfl (by kernel_rfl) (by kernel_rfl) (by kernel_rfl) (fun _ _ _ h => h) (Or.inl ⟨by rfl, ?_⟩) (by assumption) ?_; rotate_left; (focus (intro w9 hSw; (try dsimp only at hSw); go_simp; try with_reducible rfl)); (try simp only [Act.put, List.setIfInBounds_toArray, List.set_cons_zero, List.set_cons_succ]))
            (refine takeL 13 (v := undef) rfl (by kernel_rfl) (by kernel_rfl) (by kernel_rfl) (fun _ _ _ h => h) (Or.inr ⟨by rfl, rfl⟩) (by assumption) ?_; (try simp only [Act.put, List.setIfInBounds_toArray, List.set_cons_zero, List.set_cons_succ]))
            (refine takeL 14 (v := undef) rfl (by kernel_rfl) (by kernel_rfl) (by kernel_rfl) (fun _ _ _ h => h) (Or.inr ⟨by rfl, rfl⟩) (by assumption) ?_; (try simp only [Act.put, List.setIfInBounds_toArray, List.set_cons_zero, List.set_cons_succ]))
            (refine takeL 15 (v := undef) rfl (by kernel_rfl) (by kernel_rfl) (by kernel_rfl) (fun _ _ _ h => h) (Or.inr ⟨by rfl, rfl⟩) (by assumption) ?_; (try simp only [Act.put, List.setIfInBounds_toArray, List.set_cons_zero, List.set_cons_succ]))
            (refine takeL 16 (v := undef) rfl (by kernel_rfl) (by kernel_rfl) (by kernel_rfl) (fun _ _ _ h => h) (Or.inr ⟨by rfl, rfl⟩) (by assumption) ?_; (try simp only [Act.put, List.setIfInBounds_toArray, List.set_cons_zero, List.set_cons_succ]))
            (refine takeL 17 (v := undef) rfl (by kernel_rfl) (by kernel_rfl) (by kernel_rfl) (fun _ _ _ h => h) (Or.inr ⟨by rfl, rfl⟩) (by assumption) ?_; (try simp only [Act.put, List.setIfInBounds_toArray, List.set_cons_zero, List.set_cons_succ]))
            (refine takeL 18 (v := undef) rfl (by kernel_rfl) (by kernel_rfl) (by kernel_rfl) (fun _ _ _ h => h) (Or.inr ⟨by rfl, rfl⟩) (by assumption) ?_; (try simp only [Act.put, List.setIfInBounds_toArray, List.set_cons_zero, List.set_cons_succ]))
            (refine takeL 19 (v := ?_) rfl (by kernel_rfl) (by kernel_rfl) (by kernel_rfl) (fun _ _ _ h => h) (Or.inl ⟨by rfl, ?_⟩) (by assumption) ?_; rotate_left; (focus (intro w9 hSw; (try dsimp only at hSw); go_simp; try with_reducible rfl)); (try simp only [Act.put, List.setIfInBounds_toArray, List.set_cons_zero, List.set_cons_succ]))
            refine wpAnyH_done (by kernel_rfl) ?_ _
            have cRf : W.drew.frozen? ⟨w.heap.size + 1, 0, none⟩ = false := KR.out
            have cRc : W.drew.cell? ⟨w.heap.size + 1, 0, none⟩ = some (.bool false) := KR1.out
            generalize hWd : W.drew = Wd at *
            gi_wp2_with fail
            subst hWd
            exact ⟨keeps_drew ((KeepsOthers.setCell _ _ _).from _), rfl, upA_off hlt (by
              rw [show A.2.getD pre.length default = ⟨xc, xn, xk, xm, xt, xu, xo⟩ from by rw [List.getD_eq_getElem?_getD, HE0.out]; rfl]
              intro e
              obtain ⟨e1, e2⟩ := Prod.mk.inj e
              first | exact hx e2 | exact hop e1)⟩
        case done =>
          rintro D xs W hD hS ⟨hpre, hsz, v, ht⟩ hK
          have hsub := HACT.out
          subst hsub
          obtain ⟨-, kR, -, -, -, -, k15, kI, -, kc⟩ := boxes HR0.out HR1.out HRD.out.2.2 ht.now
          have c16 : W.cell? ⟨bI, 0, none⟩ = some (.int .i64 xs.length) := kI.cell 0
          have hlx : xs.length = A.2.length := by rw [hS, upA_len]
          obtain ⟨Ac, cc, hvc⟩ := rO_slice kc
          have c15 : W.cell? ⟨b15, 0, none⟩ = some (.slice Ac A.2.length cc) := by rw [← hvc]; exact k15.cell 0
          have cR : W.frozen? ⟨w.heap.size + 1, 0, none⟩ = false := kR.frozen 0
          have cR1 : W.cell? ⟨w.heap.size + 1, 0, none⟩ = some (.bool false) := kR.cell 0
          have hd : ((xs.length : Int) == (A.2.length : Int)) = true := by rw [hlx]; simp
          have HTW := Lib.hid ht
          have HKD := Lib.hid hK
          clear ht hK hact kR k15 kI kc hvc HACT hS hpre
          rw [hlx] at c16
          clear hd hlx
          dsimp only []
          go_wp2_with fail
          have hK2 := (KeepsOthers.setCell W ⟨w.heap.size + 1, 0, none⟩ (.bool true)).same D _ HKD.out rfl
          have hcR := World.cell?_setCell_same' W ⟨w.heap.size + 1, 0, none⟩ (.bool true) (by rw [cR1]; rfl)
          have hcR2 := cell_kept hcR (grownBy_putObj' _ D (.deferred none)) (fun r e => by cases e; exact ⟨_, hK2, rfl⟩)
          refine ⟨by simp, .inl ⟨_, _, rfl, run_takeDeferred hK2, ?_⟩⟩
          refine ⟨.bool true, by simp [results, Try.results10, go_sem, hcR2], rfl, ?_⟩
          have hB1 : Below w.heap.size w W := HTW.out.chg.below (fun _ h => h.elim) (Nat.le_refl _)
          have hB2 := hB1.setCell (p := ⟨w.heap.size + 1, 0, none⟩) (Nat.le_succ _) (.bool true)
          exact hB2.trans (belowK_b (w := w) (Nat.le_refl _) _ D _ _ (Nat.le_trans HT5.out.chg.size hD) hK2 rfl rfl)
        case stop =>
          intro D c pre W _ hp hx
          exact absurd hp hx.2
end Go.Proofs.Ytpaaghbmlenlfaa.Ol
