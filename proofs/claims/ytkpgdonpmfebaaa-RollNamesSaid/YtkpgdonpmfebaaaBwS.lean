/- The law's helper still; what a writer's step comes to, broken or not. -/
import Derived.Test.YtkpgdonpmfebaaaBsC
import Derived.Test.YtkpgdonpmfebaaaBlE
namespace Go.Proofs.Ytkpgdonpmfebaaa.Bt
open Go.RowKit Go.Hp
attribute [local go_sem] min2_lean min_two max2_lean max_two
set_option linter.unusedSimpArgs false
set_option linter.unusedVariables false
set_option maxRecDepth 100000
theorem lentC_len (xs : List UInt8) : (lentC xs 8).length = xs.length + 8 := by unfold lentC; simp
theorem lentC_in (xs : List UInt8) (i : Nat) (h : i < xs.length) : (lentC xs 8)[i]? = some (bv xs[i]) := by
  unfold lentC
  rw [List.getElem?_append_left (by simpa using h)]
  simp [h]
theorem lentC_out (xs : List UInt8) (i : Nat) (h1 : xs.length ≤ i) (h2 : i < xs.length + 8) : (lentC xs 8)[i]? = some (.int .u8 165) := by
  unfold lentC
  rw [List.getElem?_append_right (by simpa using h1), List.getElem?_append_left (by simp; omega), List.getElem?_replicate, if_pos (by simp; omega)]
theorem Src.cellAt {w : World} {A : Option Addr} {n c : Nat} {xs : List Value} (h : Src w (.slice A n c) n 1 xs) (i : Nat) (hi : i < n) {u : Value} (hu : xs[i]? = some u) : ∃ ad, A = some ad ∧ w.cell? (ad.add i) = some u := by
  rcases h.2 with ⟨c', h1, h0⟩ | ⟨ad, c', h1, hc⟩
  · omega
  · exact ⟨ad, (Value.slice.inj h1).1, hc i u hu⟩
theorem still_yes (A B : Option Addr) (n c d : Nat) (xs : List UInt8) (w : World) (hs : Src w (.slice A (n + 8) c) (n + 8) 1 (lentC xs 8)) (ht : Src w (.slice B n d) n 1 (xs.map bv)) (hl : n ≤ 140737488351232) :
    Calls Try.prog 27 #[.slice A (n + 8) c, .slice B n d] w fun e w' => e = .returned (.bool true) ∧ ∃ q, w.drewN q = w' := by
  have hxl : xs.length = n := by have := ht.1; simpa using this
  have HS := Lib.hid hs
  have HT := Lib.hid ht
  have HXL := Lib.hid hxl
  clear hs ht hxl
  obtain ⟨m, hm⟩ : ∃ m, n + 8 = m := ⟨_, rfl⟩
  rw [hm] at HS ⊢
  have HM := Lib.hid hm
  have hmb : m ≤ 140737488351240 := by omega
  clear hm
  go_enter Try.func27, Try.ntmps27
  go_wp2_with fail
  go_loopw [5] (fun x5 wr => ∃ i : Nat, x5 = .int .i64 i ∧ i ≤ m ∧ ∃ q, w.drewN q = wr) (fun x5 _ => m - (intOf x5).toNat)
  case atStart => exact ⟨0, rfl, Nat.zero_le _, 0, rfl⟩
  case round =>
    obtain ⟨i, rfl, him, q, rfl⟩ := hrel
    by_cases hlt : i < m
    · have hd : decide ((i : Int) < (m : Int)) = true := by simp; omega
      have hd' : decide (i < m) = true := by simp; omega
      by_cases hin : i < n
      · have hix : i < xs.length := by rw [HXL.out]; exact hin
        obtain ⟨ad, rfl, c0⟩ := Src.cellAt HS.out i hlt (lentC_in xs i hix)
        obtain ⟨bd, rfl, c1⟩ := Src.cellAt HT.out i hin (u := bv xs[i]) (by simp [hix])
        obtain ⟨a, ha⟩ : ∃ a, xs[i].toNat = a := ⟨_, rfl⟩
        rw [show bv xs[i] = .int .u8 a by rw [← ha]; rfl] at c0 c1
        have c0' : (w.drewN q).cell? (ad.add i) = some (.int .u8 a) := c0
        have c1' : (w.drewN q).cell? (bd.add i) = some (.int .u8 a) := c1
        have e1 : decide ((i : Int) < (n : Int)) = true := by simp; omega
        have e1' : decide (i < n) = true := by simp; omega
        have e2 : decide ((n : Int) ≤ (i : Int)) = false := by simp; omega
        have e2' : decide (n ≤ i) = false := by simp; omega
        have q1 : ((a : Int) != (a : Int)) = false := by simp
        clear ha hix
        go_wp2_with fail
        go_quiet (fail)
        go_wp2_with fail
        go_roundw
        case rel => exact ⟨i + 1, by simp, by omega, _, rfl⟩
        case measure => simp [intOf]; omega
      · obtain ⟨ad, rfl, c0⟩ := Src.cellAt HS.out i hlt (lentC_out xs i (by rw [HXL.out]; omega) (by rw [HXL.out]; have := HM.out; omega))
        have c0' : (w.drewN q).cell? (ad.add i) = some (.int .u8 165) := c0
        have e1 : decide ((i : Int) < (n : Int)) = false := by simp; omega
        have e1' : decide (i < n) = false := by simp; omega
        have e2 : decide ((n : Int) ≤ (i : Int)) = true := by simp; omega
        have e2' : decide (n ≤ i) = true := by simp; omega
        go_wp2_with fail
        go_quiet (fail)
        go_wp2_with fail
        go_roundw
        case rel => exact ⟨i + 1, by simp, by omega, _, rfl⟩
        case measure => simp [intOf]; omega
    · have hd : decide ((i : Int) < (m : Int)) = false := by simp; omega
      have hd' : decide (i < m) = false := by simp; omega
      go_wp2_with fail
      go_ret
      exact ⟨rfl, q, rfl⟩
/-- What a step makes of the bytes, and of a writer's soundness. -/
def wrB (bs : List UInt8) (bad : Bool) (x : ItA) : List UInt8 × Bool :=
  if x.kind = 1 ∧ x.n < 0 then (bs, true) else if bad = true ∨ x.kind < 1 ∨ 5 < x.kind then (bs, bad) else (bs ++ enc x, bad)
def WP (s : WrS) (x : ItA) (w : World) (r : Ending) (w' : World) : Prop := r = .returned (.tuple #[]) ∧ ∃ v', Turns w w' s.own (WrS.mk s.g v' (wrB s.bs s.bad x).1 (wrB s.bs s.bad x).2).own
def XP (s : WrS) (x : ItA) (w : World) (r : Ending) (w' : World) : Prop := r = .returned (.tuple #[]) ∧ ∃ v', Turns w w' s.xown (WrS.mk s.g v' (wrB s.bs s.bad x).1 (wrB s.bs s.bad x).2).xown
theorem wrB_neg (bs : List UInt8) (bad : Bool) {x : ItA} (h : x.kind = 1 ∧ x.n < 0) : wrB bs bad x = (bs, true) := by unfold wrB; rw [if_pos h]
theorem wrB_bad (bs : List UInt8) {x : ItA} (h : ¬ (x.kind = 1 ∧ x.n < 0)) : wrB bs true x = (bs, true) := by unfold wrB; rw [if_neg h, if_pos (Or.inl rfl)]
theorem wrB_ok (bs : List UInt8) {x : ItA} (h : ¬ (x.kind = 1 ∧ x.n < 0)) (h1 : 1 ≤ x.kind) (h2 : x.kind ≤ 5) : wrB bs false x = (bs ++ enc x, false) := by
  unfold wrB
  rw [if_neg h, if_neg (by simp; omega)]
theorem wrB_none (bs : List UInt8) (bad : Bool) {x : ItA} (h : x.kind < 1 ∨ 5 < x.kind) : wrB bs bad x = (bs, bad) := by
  unfold wrB
  rw [if_neg (by omega), if_pos (Or.inr h)]
section
variable (s : WrS) (w : World)
theorem w_num (n : Int) (b : Bool) (x : ByteArray) (hs : s.own.holds w) (h0 : -9223372036854775808 ≤ n) (h1 : n ≤ 9223372036854775807) (hl : s.bs.length + 10 ≤ 140737488355328) :
    Calls Try.prog 59 #[.pointer (some ⟨s.g, 0, none⟩), .int .i64 n] w (WP s ⟨1, n, b, x⟩ w) := by
  obtain ⟨g, v, bs, bad⟩ := s
  unfold WP
  by_cases hn : n < 0
  · rw [wrB_neg bs bad (x := ⟨1, n, b, x⟩) ⟨rfl, hn⟩]
    exact (num_neg ⟨g, v, bs, bad⟩ n w hs hn).mono fun _ _ ⟨h, t⟩ => ⟨h, v, t⟩
  · cases bad
    · rw [wrB_ok bs (x := ⟨1, n, b, x⟩) (fun h => hn h.2) (by simp) (by simp)]
      exact wrote_num ⟨g, v, bs, false⟩ w hs rfl n b x (by omega) h1 hl
    · rw [wrB_bad bs (x := ⟨1, n, b, x⟩) (fun h => hn h.2)]
      exact (num_bad ⟨g, v, bs, true⟩ n w hs (by omega) rfl).mono fun _ _ ⟨h, e⟩ => ⟨h, v, e ▸ Turns.refl hs⟩
theorem w_signed (n : Int) (b : Bool) (x : ByteArray) (hs : s.own.holds w) (h0 : -9223372036854775808 ≤ n) (h1 : n ≤ 9223372036854775807) (hl : s.bs.length + 10 ≤ 140737488355328) :
    Calls Try.prog 60 #[.pointer (some ⟨s.g, 0, none⟩), .int .i64 n] w (WP s ⟨2, n, b, x⟩ w) := by
  obtain ⟨g, v, bs, bad⟩ := s
  unfold WP
  cases bad
  · rw [wrB_ok bs (x := ⟨2, n, b, x⟩) (by simp) (by simp) (by simp)]
    exact wrote_signed ⟨g, v, bs, false⟩ w hs rfl n b x h0 h1 hl
  · rw [wrB_bad bs (x := ⟨2, n, b, x⟩) (by simp)]
    exact (signed_bad ⟨g, v, bs, true⟩ n w hs rfl).mono fun _ _ ⟨h, e⟩ => ⟨h, v, e ▸ Turns.refl hs⟩
theorem w_bool (n : Int) (b : Bool) (x : ByteArray) (hs : s.own.holds w) (hl : s.bs.length + 10 ≤ 140737488355328) :
    Calls Try.prog 65 #[.pointer (some ⟨s.g, 0, none⟩), .bool b] w (WP s ⟨3, n, b, x⟩ w) := by
  obtain ⟨g, v, bs, bad⟩ := s
  unfold WP
  cases bad
  · rw [wrB_ok bs (x := ⟨3, n, b, x⟩) (by simp) (by simp) (by simp)]
    exact wrote_bool ⟨g, v, bs, false⟩ w hs rfl n b x hl
  · rw [wrB_bad bs (x := ⟨3, n, b, x⟩) (by simp)]
    exact (bool_bad ⟨g, v, bs, true⟩ b w hs rfl).mono fun _ _ ⟨h, e⟩ => ⟨h, v, e ▸ Turns.refl hs⟩
theorem w_text (n : Int) (b : Bool) (x : ByteArray) (hs : s.own.holds w) (hl : s.bs.length + x.size + 10 ≤ 140737488355328) :
    Calls Try.prog 61 #[.pointer (some ⟨s.g, 0, none⟩), .string x] w (WP s ⟨4, n, b, x⟩ w) := by
  obtain ⟨g, v, bs, bad⟩ := s
  unfold WP
  cases bad
  · rw [wrB_ok bs (x := ⟨4, n, b, x⟩) (by simp) (by simp) (by simp)]
    exact wrote_text ⟨g, v, bs, false⟩ w hs rfl n b x hl
  · rw [wrB_bad bs (x := ⟨4, n, b, x⟩) (by simp)]
    exact (text_bad ⟨g, v, bs, true⟩ x w hs rfl).mono fun _ _ ⟨h, e⟩ => ⟨h, v, e ▸ Turns.refl hs⟩
theorem size_len (x : ByteArray) : x.data.toList.length = x.size := by rw [Array.length_toList]; rfl
theorem w_bytes (n : Int) (b : Bool) (x : ByteArray) (A : Option Addr) (c : Nat) (hs : s.own.holds w) (hx : Src w (.slice A x.size c) x.size 1 (x.data.toList.map bv)) (hf : ∀ w', Chg s.own.foot w w' → Src w' (.slice A x.size c) x.size 1 (x.data.toList.map bv)) (hl : s.bs.length + x.size + 10 ≤ 140737488355328) :
    Calls Try.prog 68 #[.pointer (some ⟨s.g, 0, none⟩), .slice A x.size c] w (WP s ⟨5, n, b, x⟩ w) := by
  obtain ⟨g, v, bs, bad⟩ := s
  have hl2 : bs.length + x.size + 10 ≤ 140737488355328 := hl
  have hsz := size_len x
  unfold WP
  cases bad
  · rw [wrB_ok bs (x := ⟨5, n, b, x⟩) (by simp) (by simp) (by simp)]
    refine (bytes_ok ⟨g, v, bs, false⟩ A x.size c x.data.toList w hs hx hf rfl (by rw [hsz]; exact hl2)).mono ?_
    rintro e w' ⟨rfl, v', ht⟩
    refine ⟨rfl, v', ?_⟩
    rw [hsz, List.append_assoc] at ht
    exact ht
  · rw [wrB_bad bs (x := ⟨5, n, b, x⟩) (by simp)]
    exact (bytes_bad ⟨g, v, bs, true⟩ A x.size c w hs rfl).mono fun _ _ ⟨h, e⟩ => ⟨h, v, e ▸ Turns.refl hs⟩
theorem x_num (n : Int) (b : Bool) (x : ByteArray) (hs : s.xown.holds w) (h0 : -9223372036854775808 ≤ n) (h1 : n ≤ 9223372036854775807) (hl : s.bs.length + 10 ≤ 140737488355328) :
    Calls Try.prog 63 #[.pointer (some ⟨s.g, 0, none⟩), .int .i64 n] w (XP s ⟨1, n, b, x⟩ w) := by
  obtain ⟨g, v, bs, bad⟩ := s
  unfold XP
  by_cases hn : n < 0
  · rw [wrB_neg bs bad (x := ⟨1, n, b, x⟩) ⟨rfl, hn⟩]
    exact (xnum_neg ⟨g, v, bs, bad⟩ n w hs hn).mono fun _ _ ⟨h, t⟩ => ⟨h, v, t⟩
  · obtain ⟨k, rfl⟩ : ∃ k : Nat, n = k := ⟨n.toNat, by omega⟩
    have hk : k < 2 ^ 63 := by have : (2 : Nat) ^ 63 = 9223372036854775808 := by decide
                               omega
    cases bad
    · rw [wrB_ok bs (x := ⟨1, (k : Int), b, x⟩) (fun h => hn h.2) (by simp) (by simp)]
      exact xnum_ok ⟨g, v, bs, false⟩ k w hs hk rfl hl
    · rw [wrB_bad bs (x := ⟨1, (k : Int), b, x⟩) (fun h => hn h.2)]
      exact (xnum_bad ⟨g, v, bs, true⟩ k w hs hk rfl).mono fun _ _ ⟨h, t⟩ => ⟨h, v, t⟩
theorem x_signed (n : Int) (b : Bool) (x : ByteArray) (hs : s.xown.holds w) (h0 : -9223372036854775808 ≤ n) (h1 : n ≤ 9223372036854775807) (hl : s.bs.length + 10 ≤ 140737488355328) :
    Calls Try.prog 64 #[.pointer (some ⟨s.g, 0, none⟩), .int .i64 n] w (XP s ⟨2, n, b, x⟩ w) := by
  obtain ⟨g, v, bs, bad⟩ := s
  unfold XP
  cases bad
  · rw [wrB_ok bs (x := ⟨2, n, b, x⟩) (by simp) (by simp) (by simp)]
    exact xsigned_ok ⟨g, v, bs, false⟩ n w hs h0 h1 rfl hl
  · rw [wrB_bad bs (x := ⟨2, n, b, x⟩) (by simp)]
    exact (xsigned_bad ⟨g, v, bs, true⟩ n w hs h0 h1 rfl).mono fun _ _ ⟨h, t⟩ => ⟨h, v, t⟩
theorem x_bool (n : Int) (b : Bool) (x : ByteArray) (hs : s.xown.holds w) (hl : s.bs.length + 10 ≤ 140737488355328) :
    Calls Try.prog 66 #[.pointer (some ⟨s.g, 0, none⟩), .bool b] w (XP s ⟨3, n, b, x⟩ w) := by
  obtain ⟨g, v, bs, bad⟩ := s
  unfold XP
  cases bad
  · rw [wrB_ok bs (x := ⟨3, n, b, x⟩) (by simp) (by simp) (by simp)]
    exact xbool_ok ⟨g, v, bs, false⟩ b w hs rfl hl
  · rw [wrB_bad bs (x := ⟨3, n, b, x⟩) (by simp)]
    exact (xbool_bad ⟨g, v, bs, true⟩ b w hs rfl).mono fun _ _ ⟨h, t⟩ => ⟨h, v, t⟩
theorem x_text (n : Int) (b : Bool) (x : ByteArray) (hs : s.xown.holds w) (hl : s.bs.length + x.size + 10 ≤ 140737488355328) :
    Calls Try.prog 67 #[.pointer (some ⟨s.g, 0, none⟩), .string x] w (XP s ⟨4, n, b, x⟩ w) := by
  obtain ⟨g, v, bs, bad⟩ := s
  have hl2 : bs.length + x.size + 10 ≤ 140737488355328 := hl
  unfold XP
  cases bad
  · rw [wrB_ok bs (x := ⟨4, n, b, x⟩) (by simp) (by simp) (by simp)]
    exact (xtext_ok ⟨g, v, bs, false⟩ x w hs rfl hl).mono fun _ _ ⟨h, v, t⟩ => ⟨h, v, by rw [List.append_assoc] at t; exact t⟩
  · rw [wrB_bad bs (x := ⟨4, n, b, x⟩) (by simp)]
    exact (xtext_bad ⟨g, v, bs, true⟩ x w hs rfl (by omega)).mono fun _ _ ⟨h, t⟩ => ⟨h, v, t⟩
theorem x_bytes (n : Int) (b : Bool) (x : ByteArray) (A : Option Addr) (c : Nat) (hs : s.xown.holds w) (hx : Src w (.slice A x.size c) x.size 1 (x.data.toList.map bv)) (hf : ∀ w', Chg s.xown.foot w w' → Src w' (.slice A x.size c) x.size 1 (x.data.toList.map bv)) (hl : s.bs.length + x.size + 10 ≤ 140737488355328) :
    Calls Try.prog 69 #[.pointer (some ⟨s.g, 0, none⟩), .slice A x.size c] w (XP s ⟨5, n, b, x⟩ w) := by
  obtain ⟨g, v, bs, bad⟩ := s
  have hl2 : bs.length + x.size + 10 ≤ 140737488355328 := hl
  have hsz := size_len x
  unfold XP
  cases bad
  · rw [wrB_ok bs (x := ⟨5, n, b, x⟩) (by simp) (by simp) (by simp)]
    refine (xbytes_ok ⟨g, v, bs, false⟩ A x.size c x.data.toList w hs hx hf rfl (by rw [hsz]; exact hl2)).mono ?_
    rintro e w' ⟨rfl, v', ht⟩
    refine ⟨rfl, v', ?_⟩
    rw [hsz, List.append_assoc] at ht
    exact ht
  · rw [wrB_bad bs (x := ⟨5, n, b, x⟩) (by simp)]
    exact (xbytes_bad ⟨g, v, bs, true⟩ A x.size c w hs rfl (by omega)).mono fun _ _ ⟨h, t⟩ => ⟨h, v, t⟩
end
end Go.Proofs.Ytkpgdonpmfebaaa.Bt
