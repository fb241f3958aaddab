/- BitsReads, walked. -/
import Derived.Test.YtkpgdonpmfebaaaByQ
import Derived.Test.YtkpgdonpmfebaaaUp
import Derived.Deep.RegionHeld3
namespace Go.Proofs.Ytkpgdonpmfebaaa.Bt
open Go.RowKit Go.Hp
attribute [local go_sem] min2_lean min_two max2_lean max_two
set_option linter.unusedSimpArgs false
set_option linter.unusedVariables false
set_option maxRecDepth 100000
theorem lent_ex (A : Option Addr) (n c : Nat) (xs : List UInt8) (w W : World) (hx : Src w (.slice A n c) n 1 (xs.map bv)) (hc : Chg (fun _ => False) w W) (hl : n ≤ 140737488351232) :
    Calls Try.prog 24 #[.slice A n c] W fun r w' => ∃ gl, r = .returned (.slice (some ⟨gl, 0, none⟩) (n + 8) (n + 8)) ∧ Turns W w' Hp.Own.emp (Hp.Own.row 5 1 (.slice (some ⟨gl, 0, none⟩) (n + 8) (n + 8)) (n + 8) (lentC xs 8)) :=
  (lent_any A n c xs W (Src.keep hx hc) hl).mono fun r w' h => ⟨_, h.1, h.2⟩
/-- A row of bytes. -/
def Bys (ys : List Value) : Prop := ∀ (i : Nat) u, ys[i]? = some u → ∃ z : Nat, z < 256 ∧ u = .int .u8 z
theorem bys_bv (xs : List UInt8) : Bys (xs.map bv) := fun i u h => by
  rw [List.getElem?_map] at h
  cases hx : xs[i]? with
  | none => rw [hx] at h; simp at h
  | some b => rw [hx] at h; simp at h; exact ⟨b.toNat, b.toNat_lt, h.symm⟩
theorem bys_lent (xs : List UInt8) (i : Nat) : Bys (lentC xs i) := by
  intro j u h
  have hu : u ∈ lentC xs i := List.mem_of_getElem? h
  unfold lentC at hu
  rcases List.mem_append.1 hu with h1 | h1
  · obtain ⟨b, _, rfl⟩ := List.mem_map.1 h1
    exact ⟨b.toNat, b.toNat_lt, rfl⟩
  · rcases List.mem_append.1 h1 with h2 | h2
    · have := List.eq_of_mem_replicate h2; subst this; exact ⟨165, by omega, rfl⟩
    · have := List.eq_of_mem_replicate h2; subst this; exact ⟨0, by omega, rfl⟩
theorem Bys.set {ys : List Value} (h : Bys ys) (j z : Nat) (hz : z < 256) : Bys (ys.set j (.int .u8 z)) := fun i u hu => by
  by_cases e : j = i
  · subst e
    rw [List.getElem?_set_self'] at hu
    cases hx : ys[j]? with
    | none => rw [hx] at hu; simp at hu
    | some b => rw [hx] at hu; simp at hu; exact ⟨z, hz, hu.symm⟩
  · rw [List.getElem?_set_ne e] at hu; exact h i u hu
variable {s x : Nat → RdS} {K : Nat} {w W W' : World} {O O' S A B C W1 X1 D1 : Hp.Own}
/-- The law's things while a pair is in hand. -/
def qm (s x : Nat → RdS) (K : Nat) (S A B C W1 X1 D1 : Hp.Own) (k : Nat) (P : Hp.Own) : Hp.Own := Own.fam (upd (qf s x K S A B C W1 X1 D1) (.p k) P)
theorem qm_in (h : Turns w W O (qo s x K S A B C W1 X1 D1)) {k : Nat} (hk : k < K) : Turns w W O (qm s x K S A B C W1 X1 D1 k (rp (s k) (x k))) :=
  h.to (Own.fam_as fun i => by
    cases i with
    | p j => by_cases hj : j = k <;> simp [upd, qf, hj, hk]
    | _ => rfl)
theorem qm_step {k : Nat} {P P' : Hp.Own} (h : Turns w W O (qm s x K S A B C W1 X1 D1 k P)) (t : Turns W W' P P') : Turns w W' O (qm s x K S A B C W1 X1 D1 k P') :=
  (h.trans (Turns.famE h.now (.p k) (by simp [upd]) t)).to (Own.fam_as fun i => by
    cases i with
    | p j => by_cases hj : j = k <;> simp [upd, hj]
    | _ => rfl)
theorem qm_at {k : Nat} {P : Hp.Own} (h : Turns w W O (qm s x K S A B C W1 X1 D1 k P)) : P.holds W := by
  have := h.now.1 (.p k)
  simpa [upd] using this
theorem qm_wb {k : Nat} {P : Hp.Own} (h : Turns w W O (qm s x K S A B C W1 X1 D1 k P)) : W1.holds W := h.now.1 .wb
theorem qm_xb {k : Nat} {P : Hp.Own} (h : Turns w W O (qm s x K S A B C W1 X1 D1 k P)) : X1.holds W := h.now.1 .xb
theorem qm_out {k : Nat} {y z : RdS} (h : Turns w W O (qm s x K S A B C W1 X1 D1 k (rp y z))) (hk : k < K) : Turns w W O (qo (putr s k y) (putr x k z) K S A B C W1 X1 D1) :=
  h.to (Own.fam_as fun i => by
    cases i with
    | p j => by_cases hj : j = k <;> simp [upd, qf, putr, hj, hk]
    | _ => rfl)
theorem drop_two {A R B X : Hp.Own} (h : Turns w W O (Hp.Own.both (Hp.Own.both A R) (Hp.Own.both B X))) : Turns w W O (Hp.Own.both R X) := by
  obtain ⟨hc, ⟨⟨hA, hR, d1⟩, ⟨hB, hX, d2⟩, d3⟩, hn⟩ := h
  exact ⟨hc, ⟨hR, hX, fun b p q => d3 b (Or.inr p) (Or.inr q)⟩, fun b hb => hn b (hb.elim (fun p => Or.inl (Or.inr p)) (fun p => Or.inr (Or.inr p)))⟩
set_option maxHeartbeats 4000000 in
theorem bitsReads_any (As : Nat → Option Addr) (ns cp : Nat → Nat) (bss : Nat → List UInt8) (C : Option Addr) (its : List ItA) (cap : Nat) (w : World) (hs : ∀ k, k < 2 → Src w (.slice (As k) (ns k) (cp k)) (ns k) 1 ((bss k).map bv)) (hn : ∀ k, k < 2 → ns k ≤ 140737488351232)
    (hi : ItemsAt w C its) (hl : its.length * 40 ≤ 140737488351232) :
    Calls Try.prog 6 #[.slice (As 0) (ns 0) (cp 0), .slice (As 1) (ns 1) (cp 1), .slice C its.length cap] w fun e w' => e = .returned (.bool true) ∧ Chg (fun _ => False) w w' := by
  have HI := Lib.hid hi
  have HSR := Lib.hid hs
  have HNN := Lib.hid hn
  obtain ⟨L, hL⟩ : ∃ L, its.length = L := ⟨_, rfl⟩
  rw [hL] at hl ⊢
  have HL := Lib.hid hL
  have HLB := Lib.hid (show L ≤ 3518437208780 by omega)
  clear hi hL hs hn hl
  have HD : Hid (∀ k, k < 2 → (#[.slice (As 0) (ns 0) (cp 0), .slice (As 1) (ns 1) (cp 1)] : Array Value)[k]? = some (.slice (As k) (ns k) (cp k))) := Lib.hid fun k hk => by
    rcases (show k = 0 ∨ k = 1 by omega) with rfl | rfl <;> rfl
  obtain ⟨A0, hA0⟩ : ∃ A, A = As 0 := ⟨_, rfl⟩
  obtain ⟨A1, hA1⟩ : ∃ A, A = As 1 := ⟨_, rfl⟩
  obtain ⟨n0, hn0⟩ : ∃ A, A = ns 0 := ⟨_, rfl⟩
  obtain ⟨n1, hn1⟩ : ∃ A, A = ns 1 := ⟨_, rfl⟩
  obtain ⟨c0, hc0⟩ : ∃ A, A = cp 0 := ⟨_, rfl⟩
  obtain ⟨c1, hc1⟩ : ∃ A, A = cp 1 := ⟨_, rfl⟩
  rw [← hA0, ← hA1, ← hn0, ← hn1, ← hc0, ← hc1] at HD ⊢
  clear hA0 hA1 hn0 hn1 hc0 hc1
  go_enter Try.func6, Try.ntmps6
  go_wp2_with (first
    | (go_at_call 13; refine (shown_any _).mono ?_; rintro r w2 ⟨rfl, hc⟩; have HC := Lib.hid hc; clear hc))
  have HT0 : Hid (Turns w (((w2.alloc (.cells #[.slice A0 n0 c0, .slice A1 n1 c1] 44)).alloc (.cells #[.pointer none, .pointer none] 46)).alloc (.cells #[.pointer none, .pointer none] 48)) Hp.Own.emp (qo (fun _ => ⟨0, .slice none 0 0, [], 0, 0⟩) (fun _ => ⟨0, .slice none 0 0, [], 0, 0⟩) 0 Hp.Own.emp Hp.Own.emp Hp.Own.emp Hp.Own.emp (Hp.Own.blk (w2.heap.size + 1) #[.pointer none, .pointer none] 46) (Hp.Own.blk (w2.heap.size + 1 + 1) #[.pointer none, .pointer none] 48) (Hp.Own.blk w2.heap.size #[.slice A0 n0 c0, .slice A1 n1 c1] 44))) := by
    have h2 := Turns.blk_new (w2.alloc (.cells #[.slice A0 n0 c0, .slice A1 n1 c1] 44)) #[.pointer none, .pointer none] 46
    have h3 := Turns.blk_new ((w2.alloc (.cells #[.slice A0 n0 c0, .slice A1 n1 c1] 44)).alloc (.cells #[.pointer none, .pointer none] 46)) #[.pointer none, .pointer none] 48
    rw [show (w2.alloc (.cells #[.slice A0 n0 c0, .slice A1 n1 c1] 44)).heap.size = w2.heap.size + 1 by simp] at h2
    rw [show ((w2.alloc (.cells #[.slice A0 n0 c0, .slice A1 n1 c1] 44)).alloc (.cells #[.pointer none, .pointer none] 46)).heap.size = w2.heap.size + 1 + 1 by simp] at h3
    exact Lib.hid (qo_xb (qo_wb (qo_d (qo_emp HC.out) (Turns.blk_new w2 #[.slice A0 n0 c0, .slice A1 n1 c1] 44)) h2) h3)
  obtain ⟨bd, hbd⟩ : ∃ bd, w2.heap.size = bd := ⟨_, rfl⟩
  rw [hbd] at HT0 ⊢
  obtain ⟨D, hD⟩ : ∃ D, Hp.Own.blk bd #[.slice A0 n0 c0, .slice A1 n1 c1] 44 = D := ⟨_, rfl⟩
  have HDD : Hid (∀ W, D.holds W → ∀ k, k < 2 → W.cell? ⟨bd, k, none⟩ = some (.slice (As k) (ns k) (cp k))) := Lib.hid fun W h k hk => by
    rw [← hD] at h
    exact (Blk.cell h k).trans (HD.out k hk)
  rw [hD] at HT0
  clear hbd hD HD
  go_loopw [11] (fun x11 wr => ∃ (k : Nat) (s x : Nat → RdS) (cs ds : Array Value), x11 = .int .i64 k ∧ k ≤ 2 ∧ cs.size = 2 ∧ ds.size = 2 ∧ Rds s x cs ds k 140737488351232 ∧ Turns w wr Hp.Own.emp (qo s x k Hp.Own.emp Hp.Own.emp Hp.Own.emp Hp.Own.emp (Hp.Own.blk (bd + 1) cs 46) (Hp.Own.blk (bd + 1 + 1) ds 48) D)) (fun x11 _ => 2 - (intOf x11).toNat)
  case atStart => exact ⟨0, _, _, _, _, rfl, by omega, rfl, rfl, ⟨fun k hk => absurd hk (by omega), fun k hk => absurd hk (by omega), fun k hk => absurd hk (by omega), fun k hk => absurd hk (by omega)⟩, HT0.out⟩
  case round =>
    clear HT0
    obtain ⟨k, s, x, cs, ds, rfl, hk2, hcs, hds, hp, ht⟩ := hrel
    have HT := Lib.hid ht
    have HP := Lib.hid hp
    have HCS := Lib.hid hcs
    have HDS := Lib.hid hds
    clear ht hp hcs hds
    by_cases hlt : k < 2
    · have hd : decide ((k : Int) < 2) = true := by simp; omega
      have hd' : decide (k < 2) = true := by simp; omega
      have hki : (k : Int) < 2 := by omega
      obtain ⟨u0, hu0⟩ : ∃ u, cs[k]? = some u := ⟨_, Array.getElem?_eq_getElem (by rw [HCS.out]; exact hlt)⟩
      obtain ⟨u1, hu1⟩ : ∃ u, ds[k]? = some u := ⟨_, Array.getElem?_eq_getElem (by rw [HDS.out]; exact hlt)⟩
      have HU0 := Lib.hid hu0
      have HU1 := Lib.hid hu1
      have d0 := HDD.out _ (qo_at_d HT.out) k hlt
      have hnb := HNN.out k hlt
      have hsr := HSR.out k hlt
      have HDK := Lib.hid (fun W h => HDD.out W h k hlt)
      have hbl : (bss k).length = ns k := by have := hsr.1; simpa using this
      generalize As k = A at *
      generalize ns k = n at *
      generalize cp k = c at *
      generalize bss k = bs at *
      have HSK := Lib.hid (fun W (hc : Chg Hp.Own.emp.foot w W) => Src.keep (w' := W) hsr hc)
      have HLE := Lib.hid (fun W (hc : Chg Hp.Own.emp.foot w W) => lent_ex A n c bs w W hsr hc hnb)
      have HST := fun A' B' c' d' W h1 h2 => still_yes A' B' n c' d' bs W h1 h2 hnb
      have HNR := Lib.hid (fun A' c' W h1 => newR_at A' c' n bs W hbl h1 (by omega))
      have HXN := Lib.hid (fun W h1 => xnewR_any A c n bs W hbl h1 (by omega))
      have HBL := Lib.hid hbl
      obtain ⟨m, hm⟩ : ∃ m, n + 8 = m := ⟨_, rfl⟩
      rw [hm] at HLE HST
      have HST := Lib.hid HST
      have hnm : n ≤ m := by omega
      have hmb : m ≤ 140737488351240 := by omega
      have HNB := Lib.hid hnb
      clear hu0 hu1 hsr hbl hm hnb
      go_wp2_with (first
        | (go_at_call 24; (with_reducible refine (HLE.out _ HT.out.chg).mono ?_); rintro r w5 ⟨gl, rfl, ht5⟩; have HT5 := Lib.hid (qo_a HT.out ht5); clear ht5; have d5 := HDK.out _ (qo_at_d HT5.out); have hb5 : Blk w5 (bd + 1) cs 46 := qo_at_wb HT5.out; have c5 := hb5.cell k; rw [HU0.out] at c5; have f5 := hb5.frozen k; clear hb5; have HS5 := Lib.hid (src_head (n := n) (show w5.ownsRow 0 5 1 (.slice (some ⟨gl, 0, none⟩) m m) m (bs.map bv ++ (List.replicate 8 (.int .u8 165) ++ List.replicate (8 - 8) (.int .u8 0))) from qo_at_a HT5.out) (by rw [List.length_map]; exact HBL.out) m))
        | (go_at_call 25; (with_reducible refine (HNR.out _ _ _ HS5.out).mono ?_); rintro r w6 ⟨gn, vn, rfl, ht6⟩; have HT6 := Lib.hid (qo_b HT5.out ht6); clear ht6; have d6 := HDK.out _ (qo_at_d HT6.out); have hb6 : Blk w6 (bd + 1) cs 46 := qo_at_wb HT6.out; have c6 := hb6.cell k; rw [HU0.out] at c6; have f6 := hb6.frozen k; have HB6 := Lib.hid hb6; clear hb6)
        | (go_at_call 26; have HT7 := Lib.hid (qo_wb HT6.out (Turns.blk_set HB6.out k (.pointer (some ⟨gn, 0, none⟩)))); (with_reducible refine (HXN.out _ (HSK.out _ HT7.out.chg)).mono ?_); rintro r w8 ⟨gx, vx, rfl, ht8⟩; have HT8 := Lib.hid (qo_c HT7.out ht8); clear ht8; have d8 := HDK.out _ (qo_at_d HT8.out); have hb8 : Blk w8 (bd + 1 + 1) ds 48 := qo_at_xb HT8.out; have c8 := hb8.cell k; rw [HU1.out] at c8; have f8 := hb8.frozen k; have HB8 := Lib.hid hb8; clear hb8)
        | (go_at_call 27; have HT9 := Lib.hid (qo_xb HT8.out (Turns.blk_set HB8.out k (.pointer (some ⟨gx, 0, none⟩)))); have HS9 := Lib.hid (Src.of_own (show World.ownsRow _ 0 5 1 (.slice (some ⟨gl, 0, none⟩) m m) m (lentC bs 8) from qo_at_a HT9.out)); (with_reducible refine (HST.out _ _ _ _ _ HS9.out (HSK.out _ HT9.out.chg)).mono ?_); rintro r w10 ⟨rfl, q10, hq10⟩; have hc10 : Chg (fun _ => False) _ w10 := (by rw [← hq10]; exact (Chg.refl _ _).drewN q10); have HT10 := Lib.hid (HT9.out.kept hc10); clear hq10 hc10; have hb10 : Blk w10 (bd + 1) (cs.setIfInBounds k (.pointer (some ⟨gn, 0, none⟩))) 46 := qo_at_wb HT10.out; have c10 := hb10.cell k; rw [Array.getElem?_setIfInBounds_self_of_lt (by rw [HCS.out]; exact hlt)] at c10; clear hb10))
      obtain ⟨s', hs'⟩ : ∃ s', s' = RdS.mk gn vn bs 0 0 := ⟨_, rfl⟩
      obtain ⟨x', hx'⟩ : ∃ x', x' = RdS.mk gx vx bs 0 0 := ⟨_, rfl⟩
      have HRN : Hid (Rds (putr s k s') (putr x k x') (cs.setIfInBounds k (.pointer (some ⟨gn, 0, none⟩))) (ds.setIfInBounds k (.pointer (some ⟨gx, 0, none⟩))) (k + 1) 140737488351232) := Lib.hid <| by
        rw [hs', hx']
        exact HP.out.new (by rw [HCS.out]; exact hlt) (by rw [HDS.out]; exact hlt) gn gx vn vx bs (by rw [HBL.out]; exact HNB.out)
      have HSZ : Hid ((cs.setIfInBounds k (.pointer (some ⟨gn, 0, none⟩))).size = 2 ∧ (ds.setIfInBounds k (.pointer (some ⟨gx, 0, none⟩))).size = 2) := Lib.hid (by rw [Array.size_setIfInBounds, Array.size_setIfInBounds]; exact ⟨HCS.out, HDS.out⟩)
      have HL0 := Lib.hid (bys_lent bs 8)
      rw [← hs', ← hx'] at HT10
      generalize cs.setIfInBounds k (.pointer (some ⟨gn, 0, none⟩)) = cs' at *
      generalize ds.setIfInBounds k (.pointer (some ⟨gx, 0, none⟩)) = ds' at *
      generalize lentC bs 8 = ys0 at *
      clear hs' hx' HT9 HS9 HT8 HT7 HT6 HT5 HS5 d0 d5 d6 d8 c5 f5 c6 f6 c8 f8 c10 HB6 HB8 HT
      go_loopw [14] (fun x14 wr => ∃ (i : Nat) (ys : List Value), x14 = .int .i64 i ∧ i ≤ m ∧ Bys ys ∧ Turns w wr Hp.Own.emp (qo s x k Hp.Own.emp (Hp.Own.row 5 1 (.slice (some ⟨gl, 0, none⟩) m m) m ys) s'.own x'.xown (Hp.Own.blk (bd + 1) cs' 46) (Hp.Own.blk (bd + 1 + 1) ds' 48) D)) (fun x14 _ => m - (intOf x14).toNat)
      case atStart => exact ⟨0, ys0, rfl, Nat.zero_le _, HL0.out, HT10.out⟩
      case round =>
        obtain ⟨i, ys, rfl, hi, hby, ht⟩ := hrel
        have HTI := Lib.hid ht
        have HBY := Lib.hid hby
        have HRW := Lib.hid (show wr.ownsRow 0 5 1 (.slice (some ⟨gl, 0, none⟩) m m) m ys from qo_at_a ht)
        clear ht hby
        by_cases hlt2 : i < m
        · have hd1 : decide ((i : Int) < (m : Int)) = true := by simp; omega
          have hd1' : decide (i < m) = true := by simpa using hlt2
          obtain ⟨u, hu, hc, hf⟩ := row_there HRW.out i hlt2
          obtain ⟨z, hz, rfl⟩ := HBY.out i u hu
          obtain ⟨z', hz'⟩ : ∃ z', (z + 1) % 256 = z' := ⟨_, rfl⟩
          have HZ : Hid (z' < 256) := Lib.hid (by omega)
          have hw8 : IntKind.u8.wrap ((z : Int) + 1) = (z' : Int) := by rw [IntKind.wrap_u8]; omega
          clear hu hz hz'
          go_wp2_with fail
          go_roundw
          case rel => exact ⟨i + 1, _, by simp, by omega, HBY.out.set i z' HZ.out, qo_a HTI.out (Turns.row_set HRW.out i (.int .u8 z'))⟩
          case measure => simp [intOf]; omega
        · have hd1 : decide ((i : Int) < (m : Int)) = false := by simp; omega
          have hd1' : decide (i < m) = false := by simpa using hlt2
          go_wp2_with fail
          go_roundw
          case rel => exact ⟨k + 1, _, _, _, _, by simp, by omega, HSZ.out.1, HSZ.out.2, HRN.out, qo_pair (qo_a HTI.out (Turns.emptied (Turns.refl (qo_at_a HTI.out))))⟩
          case measure => simp [intOf]; omega
    · have hd : decide ((k : Int) < 2) = false := by simp; omega
      have hd' : decide (k < 2) = false := by simp; omega
      have e2 : k = 2 := by omega
      rw [e2] at HT HP
      clear e2
      go_wp2_with fail
      have HT1 := Lib.hid (qo_s HT.out (KS.new 34 38 5 (Turns.blk_new wr #[.slice none 0 0, .slice none 0 0] 34)))
      obtain ⟨gs, hgs⟩ : ∃ gs, wr.heap.size = gs := ⟨_, rfl⟩
      have HK0 : Hid (Kb.Kn (KS.empty wr.heap.size) gs 0 140737488351232) := Lib.hid ⟨hgs, fun i hi => absurd hi (by omega)⟩
      rw [hgs]
      clear hgs
      go_loopw [16] (fun x16 wr => ∃ (i N : Nat) (s x : Nat → RdS) (kk : KS), x16 = .int .i64 i ∧ i ≤ L ∧ N ≤ i ∧ Rds s x cs ds 2 140737488351232 ∧ Kb.Kn kk gs N 140737488351232 ∧ Turns w wr Hp.Own.emp (qo s x 2 (Kb.own kk N 0) Hp.Own.emp Hp.Own.emp Hp.Own.emp (Hp.Own.blk (bd + 1) cs 46) (Hp.Own.blk (bd + 1 + 1) ds 48) D)) (fun x16 _ => L - (intOf x16).toNat)
      case atStart => exact ⟨0, 0, s, x, KS.empty wr.heap.size, rfl, by omega, by omega, HP.out, HK0.out, HT1.out⟩
      case round =>
        clear HT1 HK0 HT HP
        obtain ⟨i, N, s, x, kk, rfl, hiL, hN, hp, hk, ht⟩ := hrel
        have HT := Lib.hid ht
        have HP := Lib.hid hp
        have HK := Lib.hid hk
        have HNL := Lib.hid (show N ≤ 3518437208780 by have := HLB.out; omega)
        have hLb : L ≤ 3518437208780 := HLB.out
        clear ht hp hk
        by_cases hlt : i < L
        · have hd1 : decide ((i : Int) < (L : Int)) = true := by simp; omega
          have hd1' : decide (i < L) = true := by simpa using hlt
          obtain ⟨j, hj⟩ : ∃ j, i % 2 = j := ⟨_, rfl⟩
          have hj2 : j < 2 := by omega
          have hmod : (i : Int) % 2 = (j : Int) := by omega
          have hmod' : (i : Int).tmod 2 = (j : Int) := by rw [Int.tmod_eq_emod_of_nonneg (by omega)]; exact hmod
          have hdk : decide ((j : Int) < 2) = true := by simp; omega
          have hdk' : decide (j < 2) = true := by simpa using hj2
          have hj2i : (j : Int) < 2 := by omega
          clear hj
          have hil : i < its.length := by rw [HL.out]; exact hlt
          obtain ⟨hf, b, off, rfl, c0, c1, c2, c3⟩ := HI.out.load HT.out.chg i hil
          have hbl : b < w.heap.size := by
            obtain ⟨_, b2, off2, hA2, hb2, _⟩ := HI.out i hil
            cases hA2
            exact hb2
          have HRD := Lib.hid (fun W h => read_all (s j) (x j) its[i].kind its[i].n its[i].v its[i].s gs N 140737488351232 kk W h (HP.out.tw j hj2) (HP.out.good (by decide) hj2).1 (HP.out.good (by decide) hj2).2 HK.out (HP.out.ok j hj2).2 (by decide) (by have := HNL.out; omega))
          unfold RdAll at HRD
          generalize its[i] = it at *
          obtain ⟨ik, in_, ib, is_⟩ := it
          simp only [] at c0 c1 c2 c3
          simp only [ItA.cells] at HRD
          have HST := Lib.hid (HP.out.stp hj2 ik in_)
          have e0 : wr.cell? ⟨bd + 1, j, none⟩ = some (.pointer (some ⟨(s j).g, 0, none⟩)) := ((qo_at_wb HT.out : Blk wr (bd + 1) cs 46).cell j).trans (HP.out.at_ j hj2)
          have e1 : wr.cell? ⟨bd + 1 + 1, j, none⟩ = some (.pointer (some ⟨(x j).g, 0, none⟩)) := ((qo_at_xb HT.out : Blk wr (bd + 1 + 1) ds 48).cell j).trans (HP.out.xat j hj2)
          have HPW := Lib.hid (qo_PS (HT.out.drew) hj2)
          clear hf hil
          go_wp2_with fail
          go_region_held3 (fun w' => w'.cell? ⟨bd + 1, j, none⟩ = some (.pointer (some ⟨(s j).g, 0, none⟩)) ∧ w'.cell? ⟨bd + 1 + 1, j, none⟩ = some (.pointer (some ⟨(x j).g, 0, none⟩)) ∧ w'.cell? ⟨b, off + i * 4, none⟩ = some (.int .i64 ik) ∧ w'.cell? ⟨b, off + i * 4 + 1, none⟩ = some (.int .i64 in_) ∧ w'.cell? ⟨b, off + i * 4 + 2, none⟩ = some (.bool ib) ∧ w'.cell? ⟨b, off + i * 4 + 3, none⟩ = some (.string is_)) (go_keep)
            (first
              | (go_at_call 28; (with_reducible refine (HRD.out _ HPW.out).mono ?_); rintro r w9 ⟨rfl, k9, N9, hN9, hk9, ht9⟩; have HT9 := Lib.hid (qo_ps HT.out.drew hj2 ht9); have HK9 := Lib.hid hk9; have HN9 := Lib.hid hN9; clear ht9 hk9 hN9; have p0 : w9.cell? ⟨bd + 1, j, none⟩ = some (.pointer (some ⟨(s j).g, 0, none⟩)) := ((qo_at_wb HT9.out : Blk w9 (bd + 1) cs 46).cell j).trans (HP.out.at_ j hj2); have p1 : w9.cell? ⟨bd + 1 + 1, j, none⟩ = some (.pointer (some ⟨(x j).g, 0, none⟩)) := ((qo_at_xb HT9.out : Blk w9 (bd + 1 + 1) ds 48).cell j).trans (HP.out.xat j hj2); have r0 := (HT9.out.chg.cell (p := ⟨b, off + i * 4, none⟩) hbl (fun h => h)).trans ((HT.out.chg.cell (p := ⟨b, off + i * 4, none⟩) hbl (fun h => h)).symm.trans c0); have r1 := (HT9.out.chg.cell (p := ⟨b, off + i * 4 + 1, none⟩) hbl (fun h => h)).trans ((HT.out.chg.cell (p := ⟨b, off + i * 4 + 1, none⟩) hbl (fun h => h)).symm.trans c1); have r2 := (HT9.out.chg.cell (p := ⟨b, off + i * 4 + 2, none⟩) hbl (fun h => h)).trans ((HT.out.chg.cell (p := ⟨b, off + i * 4 + 2, none⟩) hbl (fun h => h)).symm.trans c2); have r3 := (HT9.out.chg.cell (p := ⟨b, off + i * 4 + 3, none⟩) hbl (fun h => h)).trans ((HT.out.chg.cell (p := ⟨b, off + i * 4 + 3, none⟩) hbl (fun h => h)).symm.trans c3)))
          go_wp2_with fail
          go_roundw
          case rel => exact ⟨i + 1, N9, _, _, k9, by simp, by omega, by have := HN9.out; omega, HST.out, HK9.out, HT9.out⟩
          case measure => simp [intOf]; omega
        · have hd1 : decide ((i : Int) < (L : Int)) = false := by simp; omega
          have hd1' : decide (i < L) = false := by simpa using hlt
          have HSS := Lib.hid (qo_at_s HT.out)
          go_wp2_with (first
            | (go_at_call 22; (with_reducible refine (Kb.holds_at kk gs N 140737488351232 _ HK.out HSS.out (by decide) (by have := HNL.out; omega)).mono ?_); rintro r w5 ⟨rfl, hc5⟩; have HT5 := Lib.hid (HT.out.kept hc5); clear hc5; have HS5 := Lib.hid (qo_at_s HT5.out))
            | (go_at_call 23; (with_reducible refine (Kb.spoil_at kk gs N 140737488351232 _ HK.out HS5.out (by decide) (by have := HNL.out; omega)).mono ?_); rintro r w6 ⟨rfl, hc6⟩; have HT6 := Lib.hid (qo_s HT5.out (Turns.mk (O' := Hp.Own.emp) hc6 trivial (fun _ hb => hb.elim))); clear hc6))
          go_loopw [20] (fun x20 wr => ∃ (k : Nat) (s x : Nat → RdS), x20 = .int .i64 k ∧ k ≤ 2 ∧ Rds s x cs ds 2 140737488351232 ∧ Turns w wr Hp.Own.emp (qo s x 2 Hp.Own.emp Hp.Own.emp Hp.Own.emp Hp.Own.emp (Hp.Own.blk (bd + 1) cs 46) (Hp.Own.blk (bd + 1 + 1) ds 48) D)) (fun x20 _ => 2 - (intOf x20).toNat)
          case atStart => exact ⟨0, s, x, rfl, by omega, HP.out, HT6.out⟩
          case round =>
            clear HT6 HT5 HS5 HT HSS HP HK HNL
            obtain ⟨j, s, x, rfl, hj2', hp, ht⟩ := hrel
            have HT := Lib.hid ht
            have HP := Lib.hid hp
            clear ht hp
            by_cases hj2 : j < 2
            · have hdk : decide ((j : Int) < 2) = true := by simp; omega
              have hdk' : decide (j < 2) = true := by simpa using hj2
              have hj2i : (j : Int) < 2 := by omega
              have hg := HP.out.good (by decide) hj2
              have htw := HP.out.tw j hj2
              have HRP := HP.out.stp hj2 5 1000
              have e5 : ∀ r, stp r 5 1000 = (r.some 1000).2 := fun r => by unfold stp; simp
              rw [e5, e5] at HRP
              have HRP := Lib.hid HRP
              have HER := Lib.hid (fun W h => err_any (s j) W h)
              have HEX := fun W h => xerr_any (x j) W h
              rw [htw.2.1, htw.2.2] at HEX
              have HEX := Lib.hid HEX
              have HBR := fun W h => rbytes_all (s j) W h hg.1 1000
              have HBX := fun W h => xbytes_any (x j) W h hg.2 1000
              rw [(htw.some 1000).1] at HBX
              obtain ⟨m, hm⟩ : ∃ m, ((s j).some 1000).1.length = m := ⟨_, rfl⟩
              have hmb : m ≤ 140737488351232 := by have := some_len (s j) 1000; have := (HP.out.ok j hj2).2; omega
              rw [hm] at HBR HBX
              have HBR := Lib.hid HBR
              have HBX := Lib.hid HBX
              have HMB := Lib.hid (show m ≤ 140737488355328 by omega)
              have e0 : wr.cell? ⟨bd + 1, j, none⟩ = some (.pointer (some ⟨(s j).g, 0, none⟩)) := ((qo_at_wb HT.out : Blk wr (bd + 1) cs 46).cell j).trans (HP.out.at_ j hj2)
              have e1 : wr.cell? ⟨bd + 1 + 1, j, none⟩ = some (.pointer (some ⟨(x j).g, 0, none⟩)) := ((qo_at_xb HT.out : Blk wr (bd + 1 + 1) ds 48).cell j).trans (HP.out.xat j hj2)
              have HQ := Lib.hid (qm_in HT.out hj2)
              have HC0 := Lib.hid (HP.out.at_ j hj2)
              have HC1 := Lib.hid (HP.out.xat j hj2)
              clear hm hg htw e5 hmb
              generalize ((s j).some 1000).1 = z at *
              generalize ((s j).some 1000).2 = r1 at *
              generalize ((x j).some 1000).2 = x1 at *
              generalize (s j).e = ze at *
              generalize (s j).at_ = za at *
              go_wp2_with (first
                | (go_at_call 29; (with_reducible refine (HER.out _ (rp_l (qm_at HQ.out))).mono ?_); rintro r w11 ⟨rfl, q11, rfl⟩; have HT11 := Lib.hid (HQ.out.drewN q11))
                | (go_at_call 30; (with_reducible refine (HEX.out _ (rp_r (qm_at HT11.out))).mono ?_); rintro r w12 ⟨rfl, q12, rfl⟩; have HT12 := Lib.hid (HQ.out.drewN (q11 + q12)))
                | (go_at_call 31; (with_reducible refine (HBR.out _ (rp_l (qm_at HT12.out))).mono ?_); rintro r w13 ⟨A3, c3, rfl, ht13⟩; have HT13 := Lib.hid (qm_step HT12.out (Turns.left (qm_at HT12.out) ht13)); clear ht13; have e13 : w13.cell? ⟨bd + 1 + 1, j, none⟩ = some (.pointer (some ⟨(x j).g, 0, none⟩)) := ((qm_xb HT13.out : Blk w13 (bd + 1 + 1) ds 48).cell j).trans HC1.out; have HX13 := Lib.hid (show (x j).xown.holds w13 from (qm_at HT13.out).2.1))
                | (go_at_call 32; (with_reducible refine (HBX.out _ HX13.out).mono ?_); rintro r w14 ⟨A4, c4, rfl, ht14⟩; have HT14 := Lib.hid (qm_step HT13.out (Turns.rightT (qm_at HT13.out) ht14)); clear ht14)
                | (go_at_call 20; have HA14 := Lib.hid (show (rb A3 m c3 z).holds w14 from (qm_at HT14.out).1.1); have HB14 := Lib.hid (show (rb A4 m c4 z).holds w14 from (qm_at HT14.out).2.1.1); (with_reducible refine (same_rb A3 A4 m c3 c4 z _ HA14.out HB14.out HMB.out).mono ?_); rintro r w15 ⟨rfl, hc15⟩; have HT15 := Lib.hid (HT14.out.kept hc15); clear hc15))

              go_roundw
              case rel => exact ⟨j + 1, _, _, by simp, by omega, HRP.out, qm_out (qm_step HT15.out (drop_two (Turns.refl (qm_at HT15.out)))) hj2⟩
              case measure => simp [intOf]; omega
            · have hdk : decide ((j : Int) < 2) = false := by simp; omega
              have hdk' : decide (j < 2) = false := by simpa using hj2
              go_wp2_with fail
              go_ret
              exact ⟨rfl, HT.out.chg⟩
theorem bytes_open {v : Value} {w : World} (h : ArgOk Try.prog w 38 v) : ∃ A n c bs, v = .slice A n c ∧ Src w (.slice A n c) n 1 ((bs : List UInt8).map bv) ∧ n ≤ 140737488351232 := by
  obtain ⟨A, ns, ca, rfl, hw, hs, hb, _⟩ := ints_open Try.underlying38 Try.underlying5 (by kernel_rfl) h
  obtain ⟨bs, hbs⟩ : ∃ bs : List UInt8, ns.map (Value.int .u8) = bs.map bv := by
    refine ⟨ns.map fun n => UInt8.ofNat n.toNat, ?_⟩
    rw [List.map_map]
    refine List.map_congr_left fun n hn => ?_
    have := hw n hn
    simp [Lit.wf, IntKind.min, IntKind.max, IntKind.signed, IntKind.bits] at this
    show Value.int .u8 n = bv (UInt8.ofNat n.toNat)
    unfold bv
    rw [UInt8.toNat_ofNat_of_lt' (by simp [UInt8.size]; omega)]
    congr 1
    omega
  rw [hbs] at hs
  have e : Try.prog.bytesOf 5 = 1 := by kernel_rfl
  rw [e] at hb
  exact ⟨A, ns.length, ca, bs, rfl, hs, by omega⟩
theorem bitsReads_arg (v v' v'' : Value) (w : World) (h : ArgOk Try.prog w 38 v) (h' : ArgOk Try.prog w 38 v') (h'' : ArgOk Try.prog w 23 v'') : Calls Try.prog 6 #[v, v', v''] w fun e w' => e = .returned (.bool true) ∧ Below w.heap.size w w' := by
  obtain ⟨A0, n0, c0, b0, rfl, hs0, hn0⟩ := bytes_open h
  obtain ⟨A1, n1, c1, b1, rfl, hs1, hn1⟩ := bytes_open h'
  obtain ⟨C, its, cap, rfl, hi, hl⟩ := items_open h''
  refine (bitsReads_any (fun k => if k = 0 then A0 else A1) (fun k => if k = 0 then n0 else n1) (fun k => if k = 0 then c0 else c1) (fun k => if k = 0 then b0 else b1) C its cap w ?_ ?_ hi hl).mono ?_
  · intro k hk
    rcases (show k = 0 ∨ k = 1 by omega) with rfl | rfl
    · exact hs0
    · exact hs1
  · intro k hk
    rcases (show k = 0 ∨ k = 1 by omega) with rfl | rfl
    · exact hn0
    · exact hn1
  · rintro e w' ⟨he, hc⟩
    exact ⟨he, hc.below (fun k h => h.elim) (Nat.le_refl _)⟩
end Go.Proofs.Ytkpgdonpmfebaaa.Bt
