/- The document's writer: Signed, Bool, Text, Bytes, Done. -/
import Derived.Test.YtkpgdonpmfebaaaBx0
import Derived.Lib.ConvBytes
namespace Go.Proofs.Ytkpgdonpmfebaaa.Bt
open Go.RowKit Go.Hp
attribute [local go_sem] min2_lean min_two max2_lean max_two
set_option linter.unusedSimpArgs false
set_option linter.unusedVariables false
set_option maxRecDepth 100000

theorem xsigned_ok (s : WrS) (n : Int) (w : World) (hs : s.xown.holds w) (hn0 : -9223372036854775808 ≤ n) (hn1 : n ≤ 9223372036854775807) (hb : s.bad = false) (hl : s.bs.length + 10 ≤ 140737488355328) :
    Calls Try.prog 64 #[.pointer (some ⟨s.g, 0, none⟩), .int .i64 n] w fun r w' => r = .returned (.tuple #[]) ∧ ∃ v', Turns w w' s.xown ({ s with v := v', bs := s.bs ++ vi (zz n) } : WrS).xown := by
  have HG := Lib.hid (xgroups_any (zz n) w (zz_lt n hn0 hn1))
  have hvl := vi_len64 (zz n) (zz_lt n hn0 hn1)
  have hvp := vi_pos (zz n)
  have HS := Lib.hid hs
  clear hs
  by_cases h : n < 0
  · have hd : decide (n < 0) = true := by simpa using h
    have HZ := Lib.hid (show -(n + 1) * 2 + 1 = ((zz n : Nat) : Int) by unfold zz; rw [if_pos h]; omega)
    go_enter Try.func64, Try.ntmps64
    go_wp2_with (first
      | (go_at_call 97; rw [HZ.out]; refine HG.out.mono ?_; rintro r w1 ⟨v1, rfl, ht⟩; have HT := Lib.hid ht; obtain ⟨A, c, rfl⟩ := (Src.of_own ht.now).len; clear ht)
      | (go_at_call 96; refine (put_ok s _ (vi (zz n)) _ (Turns.addr HS.out HT.out).now (Src.of_own HT.out.now) hb (by omega) (by omega)).mono ?_; rintro r w2 ⟨rfl, v2, ht2⟩))
    go_end0
    exact ⟨rfl, v2, (Turns.addr HS.out HT.out).trans ht2⟩
  · have hd : decide (n < 0) = false := by simpa using h
    have HZ := Lib.hid (show n * 2 = ((zz n : Nat) : Int) by unfold zz; rw [if_neg h]; omega)
    go_enter Try.func64, Try.ntmps64
    go_wp2_with (first
      | (go_at_call 97; rw [HZ.out]; refine HG.out.mono ?_; rintro r w1 ⟨v1, rfl, ht⟩; have HT := Lib.hid ht; obtain ⟨A, c, rfl⟩ := (Src.of_own ht.now).len; clear ht)
      | (go_at_call 96; refine (put_ok s _ (vi (zz n)) _ (Turns.addr HS.out HT.out).now (Src.of_own HT.out.now) hb (by omega) (by omega)).mono ?_; rintro r w2 ⟨rfl, v2, ht2⟩))
    go_end0
    exact ⟨rfl, v2, (Turns.addr HS.out HT.out).trans ht2⟩
theorem xsigned_bad (s : WrS) (n : Int) (w : World) (hs : s.xown.holds w) (hn0 : -9223372036854775808 ≤ n) (hn1 : n ≤ 9223372036854775807) (hb : s.bad = true) :
    Calls Try.prog 64 #[.pointer (some ⟨s.g, 0, none⟩), .int .i64 n] w fun r w' => r = .returned (.tuple #[]) ∧ Turns w w' s.xown s.xown := by
  have HG := Lib.hid (xgroups_any (zz n) w (zz_lt n hn0 hn1))
  have HS := Lib.hid hs
  clear hs
  by_cases h : n < 0
  · have hd : decide (n < 0) = true := by simpa using h
    have HZ := Lib.hid (show -(n + 1) * 2 + 1 = ((zz n : Nat) : Int) by unfold zz; rw [if_pos h]; omega)
    go_enter Try.func64, Try.ntmps64
    go_wp2_with (first
      | (go_at_call 97; rw [HZ.out]; refine HG.out.mono ?_; rintro r w1 ⟨v1, rfl, ht⟩; have HT := Lib.hid ht; obtain ⟨A, c, rfl⟩ := (Src.of_own ht.now).len; clear ht)
      | (go_at_call 96; refine (put_bad s _ _ _ _ (Turns.addr HS.out HT.out).now hb).mono ?_; rintro r w2 ⟨rfl, rfl⟩))
    go_end0
    exact ⟨rfl, Turns.addr HS.out HT.out⟩
  · have hd : decide (n < 0) = false := by simpa using h
    have HZ := Lib.hid (show n * 2 = ((zz n : Nat) : Int) by unfold zz; rw [if_neg h]; omega)
    go_enter Try.func64, Try.ntmps64
    go_wp2_with (first
      | (go_at_call 97; rw [HZ.out]; refine HG.out.mono ?_; rintro r w1 ⟨v1, rfl, ht⟩; have HT := Lib.hid ht; obtain ⟨A, c, rfl⟩ := (Src.of_own ht.now).len; clear ht)
      | (go_at_call 96; refine (put_bad s _ _ _ _ (Turns.addr HS.out HT.out).now hb).mono ?_; rintro r w2 ⟨rfl, rfl⟩))
    go_end0
    exact ⟨rfl, Turns.addr HS.out HT.out⟩
theorem bytesWorld_chg (w : World) (e : TypeId) (s : ByteArray) : Chg (fun _ => False) w (Lib.bytesWorld w e s) :=
  ⟨rfl, rfl, rfl, by rw [Lib.bytesWorld_size]; omega, fun k hk _ => Lib.bytesWorld_at_old w e s k hk⟩
theorem bytesWorld_src (w : World) (e : TypeId) (s : ByteArray) (c : Nat) : Src (Lib.bytesWorld w e s) (.slice (some ⟨w.heap.size, 0, none⟩) s.size c) s.data.toList.length 1 (s.data.toList.map bv) := by
  have hsz : s.data.toList.length = s.size := by rw [Array.length_toList]; rfl
  refine ⟨by simp, Or.inr ⟨_, c, by rw [hsz], fun j u hu => ?_⟩⟩
  have hj : j < s.size := by
    have := (List.getElem?_eq_some_iff.1 hu).1
    simpa [hsz] using this
  have ha : (⟨w.heap.size, 0, none⟩ : Addr).add j = ⟨w.heap.size, j, none⟩ := by unfold Addr.add; split <;> simp_all
  rw [ha, Lib.bytesWorld_cell w e s j hj]
  rw [List.getElem?_map] at hu
  rw [List.getD_eq_getElem?_getD]
  cases h : s.data.toList[j]? with
  | none => rw [h] at hu; simp at hu
  | some b => rw [h] at hu; simp [bv] at hu ⊢; exact hu
theorem Turns.keep {w w' : World} {O : Own} (h : O.holds w) (hc : Chg (fun _ => False) w w') : Turns w w' O O := ⟨hc.mono fun _ _ hf => hf.elim, Own.chg h hc (fun _ _ hf => hf), fun _ hb => Or.inl hb⟩
theorem xtext_ok (s : WrS) (x : ByteArray) (w : World) (hs : s.xown.holds w) (hb : s.bad = false) (hl : s.bs.length + x.size + 10 ≤ 140737488355328) :
    Calls Try.prog 67 #[.pointer (some ⟨s.g, 0, none⟩), .string x] w fun r w' => r = .returned (.tuple #[]) ∧ ∃ v', Turns w w' s.xown ({ s with v := v', bs := s.bs ++ vi x.size ++ x.data.toList } : WrS).xown := by
  have HG := Lib.hid (xnum_ok s x.size w hs (by omega) hb (by omega))
  clear hs
  go_enter Try.func67, Try.ntmps67
  have hsz : x.data.toList.length = x.size := by rw [Array.length_toList]; rfl
  have hvp := vi_pos x.size
  have hvl := vi_len64 x.size (by omega)
  go_wp2_with (first
    | (go_at_call 63; refine HG.out.mono ?_; rintro r w1 ⟨rfl, v1, ht⟩; have HT := Lib.hid ht; have hcv := Lib.run_convert_string_bytes (P := Try.prog) w1 9 38 5 x Try.underlying9 Try.underlying38 Try.underlying5; clear ht)
    | (go_at_call 96; refine (put_ok (WrS.mk s.g v1 (s.bs ++ vi x.size) s.bad) _ x.data.toList _ (Turns.keep HT.out.now (bytesWorld_chg w1 5 x)).now (bytesWorld_src w1 5 x _) hb (by simp only [List.length_append]; omega) (by simp only [List.length_append]; omega)).mono ?_; rintro r w2 ⟨rfl, v2, ht2⟩))
  go_end0
  exact ⟨rfl, v2, (HT.out.trans (Turns.keep HT.out.now (bytesWorld_chg w1 5 x))).trans ht2⟩
theorem xtext_bad (s : WrS) (x : ByteArray) (w : World) (hs : s.xown.holds w) (hb : s.bad = true) (hl : x.size + 10 ≤ 140737488355328) :
    Calls Try.prog 67 #[.pointer (some ⟨s.g, 0, none⟩), .string x] w fun r w' => r = .returned (.tuple #[]) ∧ Turns w w' s.xown s.xown := by
  have HG := Lib.hid (xnum_bad s x.size w hs (by omega) hb)
  clear hs
  go_enter Try.func67, Try.ntmps67
  go_wp2_with (first
    | (go_at_call 63; refine HG.out.mono ?_; rintro r w1 ⟨rfl, ht⟩; have HT := Lib.hid ht; have hcv := Lib.run_convert_string_bytes (P := Try.prog) w1 9 38 5 x Try.underlying9 Try.underlying38 Try.underlying5; clear ht)
    | (go_at_call 96; refine (put_bad s _ _ _ _ (Turns.keep HT.out.now (bytesWorld_chg w1 5 x)).now hb).mono ?_; rintro r w2 ⟨rfl, rfl⟩))
  go_end0
  exact ⟨rfl, HT.out.trans (Turns.keep HT.out.now (bytesWorld_chg w1 5 x))⟩
end Go.Proofs.Ytkpgdonpmfebaaa.Bt
