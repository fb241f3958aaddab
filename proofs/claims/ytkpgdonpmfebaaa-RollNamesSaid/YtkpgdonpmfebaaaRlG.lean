/- Package shelf: a result written. -/
import Derived.Test.YtkpgdonpmfebaaaRlF
import Derived.Test.YtkpgdonpmfebaaaBwS
namespace Go.Proofs.Ytkpgdonpmfebaaa.Rl
open Go.Proofs.Ytkpgdonpmfebaaa.Bt
open Go.RowKit Go.Hp
attribute [local go_sem] min2_lean min_two max2_lean max_two
set_option linter.unusedSimpArgs false
set_option linter.unusedVariables false
set_option maxRecDepth 100000
theorem chk_zero {code n : Int} {xs : List ByteArray} (h : chk code n xs = 0) : 0 ≤ code ∧ code ≤ 4 ∧ (code ≠ 0 → n = 0 ∧ xs = []) ∧ 0 ≤ n ∧ n ≤ 1099511627776 ∧ xs.length ≤ 8 ∧ ∀ s ∈ xs, s.size ≤ 64 := by
  unfold chk at h
  split at h
  · simp at h
  rename_i h1
  split at h
  · simp at h
  rename_i h2
  split at h
  · simp at h
  rename_i h3
  split at h
  · simp at h
  rename_i h4
  split at h
  · simp at h
  rename_i h5
  refine ⟨by omega, by omega, fun hc => ?_, by omega, by omega, by omega, fun s hs => ?_⟩
  · have h6 : ¬ (n ≠ 0 ∨ 0 < xs.length) := fun h7 => h2 ⟨hc, h7⟩
    have h8 : n = 0 := Decidable.byContradiction fun h9 => h6 (Or.inl h9)
    have h9 : ¬ 0 < xs.length := fun h9 => h6 (Or.inr h9)
    exact ⟨h8, List.eq_nil_of_length_eq_zero (by omega)⟩
  · exact Nat.le_of_not_lt fun h6 => h5 ⟨s, hs, h6⟩
/-- A number as bytes; a text; a result. -/
def eN (n : Int) : List UInt8 := enc ⟨1, n, false, ⟨#[]⟩⟩
def eT (x : ByteArray) : List UInt8 := enc ⟨4, 0, false, x⟩
def eR (code n : Int) (xs : List ByteArray) : List UInt8 := eN code ++ (if code = 0 then eN n ++ eN xs.length ++ (xs.map eT).flatten else [])
theorem eN_len {n : Int} (h0 : 0 ≤ n) (h1 : n ≤ 9223372036854775807) : (eN n).length ≤ 10 := by
  have h := (enc_len (x := ⟨1, n, false, ⟨#[]⟩⟩) ⟨by simp only []; omega, by simp only []; omega, by show (0 : Nat) ≤ _; omega⟩).2
  exact h
theorem eT_len {x : ByteArray} (h : x.size ≤ 64) : (eT x).length ≤ 74 := by
  have h := (enc_len (x := ⟨4, 0, false, x⟩) ⟨by simp, by simp, by simp only []; omega⟩).2
  simp only [eT]
  simp only [] at h
  omega
theorem wr_num (g : Nat) (v : Value) (bs : List UInt8) (n : Int) (w : World) (hs : (WrS.mk g v bs false).own.holds w) (h0 : 0 ≤ n) (h1 : n ≤ 9223372036854775807) (hl : bs.length ≤ 100000) :
    Calls Try.prog 59 #[.pointer (some ⟨g, 0, none⟩), .int .i64 n] w fun e w' => e = .returned (.tuple #[]) ∧ ∃ v', Turns w w' (WrS.mk g v bs false).own (WrS.mk g v' (bs ++ eN n) false).own := by
  have h := w_num (WrS.mk g v bs false) w n false ⟨#[]⟩ hs (by omega) h1 (by show bs.length + 10 ≤ _; omega)
  unfold WP at h
  rw [wrB_ok bs (x := ⟨1, n, false, ⟨#[]⟩⟩) (fun h => by have := h.2; simp only [] at this; omega) (by simp) (by simp)] at h
  exact h
theorem wr_text (g : Nat) (v : Value) (bs : List UInt8) (x : ByteArray) (w : World) (hs : (WrS.mk g v bs false).own.holds w) (h1 : x.size ≤ 64) (hl : bs.length ≤ 100000) :
    Calls Try.prog 61 #[.pointer (some ⟨g, 0, none⟩), .string x] w fun e w' => e = .returned (.tuple #[]) ∧ ∃ v', Turns w w' (WrS.mk g v bs false).own (WrS.mk g v' (bs ++ eT x) false).own := by
  have h := w_text (WrS.mk g v bs false) w 0 false x hs (by show bs.length + x.size + 10 ≤ _; omega)
  unfold WP at h
  rw [wrB_ok bs (x := ⟨4, 0, false, x⟩) (by simp) (by simp) (by simp)] at h
  exact h
def rw_ (A : Option Addr) (m c : Nat) (xs : List ByteArray) (g : Nat) (v : Value) (bs : List UInt8) : Hp.Own := Hp.Own.both (its A m c xs) (WrS.mk g v bs false).own
theorem rw_w {A : Option Addr} {m c : Nat} {xs : List ByteArray} {g : Nat} {v v' : Value} {bs bs' : List UInt8} {w W W' : World} {O : Hp.Own} (h : Turns w W O (rw_ A m c xs g v bs)) (t : Turns W W' (WrS.mk g v bs false).own (WrS.mk g v' bs' false).own) : Turns w W' O (rw_ A m c xs g v' bs') := h.trans (Turns.rightT h.now t)
theorem put_any (g : Nat) (v : Value) (bs : List UInt8) (code n : Int) (A : Option Addr) (m c : Nat) (xs : List ByteArray) (w : World) (h : (rw_ A m c xs g v bs).holds w) (hm : xs.length = m) (hck : chk code n xs = 0) (hb : bs.length ≤ 1000) :
    Calls Try.prog 87 #[.pointer (some ⟨g, 0, none⟩), .agg #[.int .i64 code, .int .i64 n, .slice A m c]] w fun e w' => e = .returned (.tuple #[]) ∧ ∃ v', Turns w w' (rw_ A m c xs g v bs) (rw_ A m c xs g v' (bs ++ eR code n xs)) := by
  obtain ⟨k0, k1, k2, k3, k4, k5, k6⟩ := chk_zero hck
  have HH := Lib.hid h
  have HT0 := Lib.hid ((Turns.refl h).alloc (.cells #[.int .i64 code, .int .i64 n, .slice A m c] 73))
  have HCK := fun W (h : (rw_ A m c xs g v bs).holds W) => check_any code n A m c xs W (Src.of_own (show W.ownsRow 0 9 1 (.slice A m c) m (xs.map Value.string) from h.1))
  rw [hck] at HCK
  have HCK := Lib.hid HCK
  have HM := Lib.hid hm
  have HB0 := Lib.hid (Blk.new w #[.int .i64 code, .int .i64 n, .slice A m c] 73)
  have hst : ∀ (W : World) (O' : Hp.Own), Turns (w.alloc (.cells #[.int .i64 code, .int .i64 n, .slice A m c] 73)) W (rw_ A m c xs g v bs) O' → W.cell? ⟨w.heap.size, 0, none⟩ = some (.int .i64 code) ∧ W.cell? ⟨w.heap.size, 1, none⟩ = some (.int .i64 n) ∧ W.cell? ⟨w.heap.size, 2, none⟩ = some (.slice A m c) := fun W O' t => by
    have hb := Blk.beside HH.out HB0.out (Nat.le_refl _) t
    exact ⟨hb.cell 0, hb.cell 1, hb.cell 2⟩
  have HST := Lib.hid hst
  clear h hst hck
  have HU0 := Lib.hid (Turns.refl HT0.out.now)
  by_cases hc : code = 0
  · subst hc
    have l0 : (eN 0).length ≤ 10 := eN_len (by decide) (by decide)
    have l1 : (eN n).length ≤ 10 := eN_len k3 (by omega)
    have l2 : (eN (m : Int)).length ≤ 10 := eN_len (by omega) (by omega)
    have HNA := Lib.hid (fun W (h : (rw_ A m c xs g v bs).holds W) => wr_num g v bs 0 W h.2.1 (by decide) (by decide) (by omega))
    have HNB := Lib.hid (fun v' W (h : (rw_ A m c xs g v' (bs ++ eN 0)).holds W) => wr_num g v' (bs ++ eN 0) n W h.2.1 k3 (by omega) (by rw [List.length_append]; omega))
    have HNC := Lib.hid (fun v' W (h : (rw_ A m c xs g v' (bs ++ eN 0 ++ eN n)).holds W) => wr_num g v' (bs ++ eN 0 ++ eN n) m W h.2.1 (by omega) (by omega) (by rw [List.length_append, List.length_append]; omega))
    have HE : Hid (bs ++ eR 0 n xs = bs ++ eN 0 ++ eN n ++ eN (m : Int) ++ (xs.map eT).flatten) := Lib.hid (by unfold eR; rw [if_pos rfl, hm]; simp only [List.append_assoc])
    obtain ⟨R, hR⟩ : ∃ R, R = bs ++ eR 0 n xs := ⟨_, rfl⟩
    rw [← hR]
    rw [← hR] at HE
    clear hR
    obtain ⟨b3, hb3⟩ : ∃ b3, b3 = bs ++ eN 0 ++ eN n ++ eN (m : Int) := ⟨_, rfl⟩
    have hl3 : b3.length ≤ 1030 := by rw [hb3, List.length_append, List.length_append, List.length_append]; omega
    rw [← hb3] at HE
    have HB3 := Lib.hid hb3
    have HLB : Hid (∀ i, i ≤ m → (b3 ++ ((xs.take i).map eT).flatten).length ≤ 1030 + 74 * i) := Lib.hid <| by
      intro i
      induction i with
      | zero => intro _; simpa using hl3
      | succ i ih =>
        intro hi
        have h1 := ih (by omega)
        have hx : i < xs.length := by omega
        rw [List.take_succ_eq_append_getElem hx, List.map_append, List.flatten_append, ← List.append_assoc, List.length_append]
        have h2 := eT_len (k6 xs[i] (List.getElem_mem hx))
        simp only [List.map_cons, List.map_nil, List.flatten_cons, List.flatten_nil, List.append_nil]
        omega
    have HXT := Lib.hid (fun i (hi : i < xs.length) v' W (h : (rw_ A m c xs g v' (b3 ++ ((xs.take i).map eT).flatten)).holds W) => wr_text g v' (b3 ++ ((xs.take i).map eT).flatten) xs[i] W h.2.1 (k6 _ (List.getElem_mem hi)) (by have := HLB.out i (by omega); omega))
    have HSI := Lib.hid (fun W v' bs' (h : (rw_ A m c xs g v' bs').holds W) i (hi : i < xs.length) => src_at (Src.of_own (show W.ownsRow 0 9 1 (.slice A m c) m (xs.map Value.string) from h.1)) i hi)
    have hm8 : m ≤ 8 := by omega
    clear k1 k2 k3 k4 k5 k6 l0 l1 l2 hb hb3 hl3 hm
    go_enter Try.func87, Try.ntmps87
    go_wp2_with (first
      | (go_at_call 102; (with_reducible refine (HCK.out _ HT0.out.now).mono ?_); rintro e w1 ⟨rfl, hc1⟩; have HU1 := Lib.hid (HU0.out.kept hc1); obtain ⟨q0, q1, q2⟩ := HST.out _ _ HU1.out; clear hc1)
      | (go_at_call 59; (with_reducible refine (HNA.out _ HU1.out.now).mono ?_); rintro e w2 ⟨rfl, v2, ht2⟩; have HU2 := Lib.hid (rw_w HU1.out ht2); clear ht2; clear q0 q1 q2; obtain ⟨q0, q1, q2⟩ := HST.out _ _ HU2.out)
      | (go_at_call 59; (with_reducible refine (HNB.out _ _ HU2.out.now).mono ?_); rintro e w3 ⟨rfl, v3, ht3⟩; have HU3 := Lib.hid (rw_w HU2.out ht3); clear ht3; clear q0 q1 q2; obtain ⟨q0, q1, q2⟩ := HST.out _ _ HU3.out)
      | (go_at_call 59; (with_reducible refine (HNC.out _ _ HU3.out.now).mono ?_); rintro e w4 ⟨rfl, v4, ht4⟩; have HU4 := Lib.hid (rw_w HU3.out ht4); clear ht4; clear q0 q1 q2; obtain ⟨q0, q1, q2⟩ := HST.out _ _ HU4.out))
    rw [HB3.out.symm] at HU4
    go_loopw [30] (fun x30 wr => ∃ (i : Nat) (v' : Value), x30 = .int .i64 i ∧ i ≤ m ∧ Turns (w.alloc (.cells #[.int .i64 0, .int .i64 n, .slice A m c] 73)) wr (rw_ A m c xs g v bs) (rw_ A m c xs g v' (b3 ++ ((xs.take i).map eT).flatten))) (fun x30 _ => m - (intOf x30).toNat)
    case atStart => exact ⟨0, v4, rfl, Nat.zero_le _, by simpa using HU4.out⟩
    case round =>
      clear HU4 HU3 HU2 HU1 q0 q1 q2
      obtain ⟨i, v5, rfl, hi, ht⟩ := hrel
      have HT := Lib.hid ht
      clear ht
      by_cases hlt : i < m
      · have hd : decide ((i : Int) < (m : Int)) = true := by simp; omega
        have hd' : decide (i < m) = true := by simpa using hlt
        have hil : i < xs.length := by rw [HM.out]; exact hlt
        obtain ⟨ad, rfl, hc⟩ := HSI.out _ _ _ HT.out.now i hil
        have HX := Lib.hid (fun W h => HXT.out i hil v5 W h)
        have HNX : Hid (b3 ++ ((xs.take i).map eT).flatten ++ eT xs[i] = b3 ++ ((xs.take (i + 1)).map eT).flatten) := Lib.hid (by
          rw [List.take_succ_eq_append_getElem hil, List.map_append, List.flatten_append, ← List.append_assoc]; simp)
        generalize xs[i] = b at *
        clear hil
        go_wp2_with (go_at_call 61; (with_reducible refine (HX.out _ HT.out.now).mono ?_); rintro e w6 ⟨rfl, v6, ht6⟩; have HU6 := Lib.hid (rw_w HT.out ht6); clear ht6)
        rw [HNX.out] at HU6
        go_roundw
        case rel => exact ⟨i + 1, v6, by simp, by omega, HU6.out⟩
        case measure => simp [intOf]; omega
      · have hd : decide ((i : Int) < (m : Int)) = false := by simp; omega
        have hd' : decide (i < m) = false := by simpa using hlt
        have he : xs.take i = xs := List.take_of_length_le (by rw [HM.out]; omega)
        rw [he, ← HE.out] at HT
        clear he
        go_wp2_with fail
        go_end0
        exact ⟨rfl, v5, HT0.out.trans HT.out⟩
  · have e1 : (code != 0) = true := by simpa using hc
    have HN := Lib.hid (fun W (h : (rw_ A m c xs g v bs).holds W) => wr_num g v bs code W h.2.1 k0 (by omega) (by omega))
    have e2 : eR code n xs = eN code := by unfold eR; rw [if_neg hc, List.append_nil]
    rw [e2]
    clear e2 hc k3
    go_enter Try.func87, Try.ntmps87
    go_wp2_with (first
      | (go_at_call 102; (with_reducible refine (HCK.out _ HT0.out.now).mono ?_); rintro e w1 ⟨rfl, hc1⟩; have HU1 := Lib.hid (HU0.out.kept hc1); obtain ⟨q0, q1, q2⟩ := HST.out _ _ HU1.out; clear hc1)
      | (go_at_call 59; (with_reducible refine (HN.out _ HU1.out.now).mono ?_); rintro e w2 ⟨rfl, v2, ht2⟩; have HU2 := Lib.hid (rw_w HU1.out ht2); obtain ⟨x0, x1, x2⟩ := HST.out _ _ HU2.out))
    refine bodyPost_ret (results_none rfl _ _ _) rfl ⟨rfl, v2, HT0.out.trans HU2.out⟩
end Go.Proofs.Ytkpgdonpmfebaaa.Rl
