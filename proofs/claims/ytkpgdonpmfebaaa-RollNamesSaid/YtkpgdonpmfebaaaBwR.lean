/- The law's helper write: an item laid down by the program and by the document. -/
import Derived.Test.YtkpgdonpmfebaaaBwS
namespace Go.Proofs.Ytkpgdonpmfebaaa.Bt
open Go.RowKit Go.Hp
attribute [local go_sem] min2_lean min_two max2_lean max_two
set_option linter.unusedSimpArgs false
set_option linter.unusedVariables false
set_option maxRecDepth 100000
/-- A pair of writers. -/
def pw (s x : WrS) : Hp.Own := Hp.Own.both s.own x.xown
def WrOk (s x : WrS) (it : ItA) (w : World) (r : Ending) (w' : World) : Prop := r = .returned (.bool true) ∧ ∃ v v', Turns w w' (pw s x) (pw (WrS.mk s.g v (wrB s.bs s.bad it).1 (wrB s.bs s.bad it).2) (WrS.mk x.g v' (wrB s.bs s.bad it).1 (wrB s.bs s.bad it).2))
theorem pw_left {s x s' : WrS} {w W W' : World} {O : Hp.Own} (h : Turns w W O (pw s x)) (t : Turns W W' s.own s'.own) : Turns w W' O (Hp.Own.both s'.own x.xown) := h.trans (Turns.left h.now t)
theorem pw_right {s x x' : WrS} {w W W' : World} {O : Hp.Own} (h : Turns w W O (Hp.Own.both s.own x.xown)) (t : Turns W W' x.xown x'.xown) : Turns w W' O (Hp.Own.both s.own x'.xown) := h.trans (Turns.rightT h.now t)
theorem pw_l {s x : WrS} {w : World} (h : (pw s x).holds w) : s.own.holds w := h.1
theorem pw_r {s x : WrS} {w : World} (h : (pw s x).holds w) : x.xown.holds w := h.2.1
theorem write_num (s x : WrS) (n : Int) (b : Bool) (t : ByteArray) (w : World) (h : (pw s x).holds w) (he : x.bs = s.bs) (hb : x.bad = s.bad) (h0 : -9223372036854775808 ≤ n) (h1 : n ≤ 9223372036854775807) (hl : s.bs.length + 10 ≤ 140737488355328) :
    Calls Try.prog 17 #[.pointer (some ⟨s.g, 0, none⟩), .pointer (some ⟨x.g, 0, none⟩), .agg (ItA.mk 1 n b t).cells] w (WrOk s x ⟨1, n, b, t⟩ w) := by
  have HC := Lib.hid ((Turns.refl h).alloc (.cells #[.int .i64 1, .int .i64 n, .bool b, .string t] 36))
  have HW := Lib.hid (w_num s (w.alloc (.cells #[.int .i64 1, .int .i64 n, .bool b, .string t] 36)) n b t (pw_l HC.out.now) h0 h1 hl)
  have HX := Lib.hid (fun W h => x_num x W n b t h h0 h1 (by rw [he]; exact hl))
  have HH := Lib.hid h
  unfold WP at HW
  unfold XP at HX
  rw [he, hb] at HX
  show Calls Try.prog 17 #[.pointer (some ⟨s.g, 0, none⟩), .pointer (some ⟨x.g, 0, none⟩), .agg #[.int .i64 1, .int .i64 n, .bool b, .string t]] w _
  clear h
  go_enter Try.func17, Try.ntmps17
  go_wp2_with (first
    | (go_at_call 59; (with_reducible refine HW.out.mono ?_); rintro r w1 ⟨rfl, v1, ht1⟩; have HT1 := Lib.hid (pw_left HC.out ht1); obtain ⟨q0, q1, q2, q3, -, -, -, -⟩ := Blk.four (Blk.beside (pw_l HH.out) (Blk.new w #[.int .i64 1, .int .i64 n, .bool b, .string t] 36) (Nat.le_refl _) ht1); clear ht1; have HX1 := Lib.hid (show x.xown.holds w1 from HT1.out.now.2.1))
    | (go_at_call 63; (with_reducible refine (HX.out _ HX1.out).mono ?_); rintro r w2 ⟨rfl, v2, ht2⟩; have HT2 := Lib.hid (pw_right HT1.out ht2); clear ht2))
  go_ret
  exact ⟨rfl, v1, v2, HT2.out⟩
theorem write_signed (s x : WrS) (n : Int) (b : Bool) (t : ByteArray) (w : World) (h : (pw s x).holds w) (he : x.bs = s.bs) (hb : x.bad = s.bad) (h0 : -9223372036854775808 ≤ n) (h1 : n ≤ 9223372036854775807) (hl : s.bs.length + 10 ≤ 140737488355328) :
    Calls Try.prog 17 #[.pointer (some ⟨s.g, 0, none⟩), .pointer (some ⟨x.g, 0, none⟩), .agg (ItA.mk 2 n b t).cells] w (WrOk s x ⟨2, n, b, t⟩ w) := by
  have HC := Lib.hid ((Turns.refl h).alloc (.cells #[.int .i64 2, .int .i64 n, .bool b, .string t] 36))
  have HW := Lib.hid (w_signed s (w.alloc (.cells #[.int .i64 2, .int .i64 n, .bool b, .string t] 36)) n b t (pw_l HC.out.now) h0 h1 hl)
  have HX := Lib.hid (fun W h => x_signed x W n b t h h0 h1 (by rw [he]; exact hl))
  have HH := Lib.hid h
  unfold WP at HW
  unfold XP at HX
  rw [he, hb] at HX
  show Calls Try.prog 17 #[.pointer (some ⟨s.g, 0, none⟩), .pointer (some ⟨x.g, 0, none⟩), .agg #[.int .i64 2, .int .i64 n, .bool b, .string t]] w _
  clear h
  go_enter Try.func17, Try.ntmps17
  go_wp2_with (first
    | (go_at_call 60; (with_reducible refine HW.out.mono ?_); rintro r w1 ⟨rfl, v1, ht1⟩; have HT1 := Lib.hid (pw_left HC.out ht1); obtain ⟨q0, q1, q2, q3, -, -, -, -⟩ := Blk.four (Blk.beside (pw_l HH.out) (Blk.new w #[.int .i64 2, .int .i64 n, .bool b, .string t] 36) (Nat.le_refl _) ht1); clear ht1; have HX1 := Lib.hid (show x.xown.holds w1 from HT1.out.now.2.1))
    | (go_at_call 64; (with_reducible refine (HX.out _ HX1.out).mono ?_); rintro r w2 ⟨rfl, v2, ht2⟩; have HT2 := Lib.hid (pw_right HT1.out ht2); clear ht2))
  go_ret
  exact ⟨rfl, v1, v2, HT2.out⟩
theorem write_bool (s x : WrS) (n : Int) (b : Bool) (t : ByteArray) (w : World) (h : (pw s x).holds w) (he : x.bs = s.bs) (hb : x.bad = s.bad) (hl : s.bs.length + 10 ≤ 140737488355328) :
    Calls Try.prog 17 #[.pointer (some ⟨s.g, 0, none⟩), .pointer (some ⟨x.g, 0, none⟩), .agg (ItA.mk 3 n b t).cells] w (WrOk s x ⟨3, n, b, t⟩ w) := by
  have HC := Lib.hid ((Turns.refl h).alloc (.cells #[.int .i64 3, .int .i64 n, .bool b, .string t] 36))
  have HW := Lib.hid (w_bool s (w.alloc (.cells #[.int .i64 3, .int .i64 n, .bool b, .string t] 36)) n b t (pw_l HC.out.now) hl)
  have HX := Lib.hid (fun W h => x_bool x W n b t h (by rw [he]; exact hl))
  have HH := Lib.hid h
  unfold WP at HW
  unfold XP at HX
  rw [he, hb] at HX
  show Calls Try.prog 17 #[.pointer (some ⟨s.g, 0, none⟩), .pointer (some ⟨x.g, 0, none⟩), .agg #[.int .i64 3, .int .i64 n, .bool b, .string t]] w _
  clear h
  go_enter Try.func17, Try.ntmps17
  go_wp2_with (first
    | (go_at_call 65; (with_reducible refine HW.out.mono ?_); rintro r w1 ⟨rfl, v1, ht1⟩; have HT1 := Lib.hid (pw_left HC.out ht1); obtain ⟨q0, q1, q2, q3, -, -, -, -⟩ := Blk.four (Blk.beside (pw_l HH.out) (Blk.new w #[.int .i64 3, .int .i64 n, .bool b, .string t] 36) (Nat.le_refl _) ht1); clear ht1; have HX1 := Lib.hid (show x.xown.holds w1 from HT1.out.now.2.1))
    | (go_at_call 66; (with_reducible refine (HX.out _ HX1.out).mono ?_); rintro r w2 ⟨rfl, v2, ht2⟩; have HT2 := Lib.hid (pw_right HT1.out ht2); clear ht2))
  go_ret
  exact ⟨rfl, v1, v2, HT2.out⟩
theorem write_text (s x : WrS) (n : Int) (b : Bool) (t : ByteArray) (w : World) (h : (pw s x).holds w) (he : x.bs = s.bs) (hb : x.bad = s.bad) (hl : s.bs.length + t.size + 10 ≤ 140737488355328) :
    Calls Try.prog 17 #[.pointer (some ⟨s.g, 0, none⟩), .pointer (some ⟨x.g, 0, none⟩), .agg (ItA.mk 4 n b t).cells] w (WrOk s x ⟨4, n, b, t⟩ w) := by
  have HC := Lib.hid ((Turns.refl h).alloc (.cells #[.int .i64 4, .int .i64 n, .bool b, .string t] 36))
  have HW := Lib.hid (w_text s (w.alloc (.cells #[.int .i64 4, .int .i64 n, .bool b, .string t] 36)) n b t (pw_l HC.out.now) hl)
  have HX := Lib.hid (fun W h => x_text x W n b t h (by rw [he]; exact hl))
  have HH := Lib.hid h
  unfold WP at HW
  unfold XP at HX
  rw [he, hb] at HX
  show Calls Try.prog 17 #[.pointer (some ⟨s.g, 0, none⟩), .pointer (some ⟨x.g, 0, none⟩), .agg #[.int .i64 4, .int .i64 n, .bool b, .string t]] w _
  clear h
  go_enter Try.func17, Try.ntmps17
  go_wp2_with (first
    | (go_at_call 61; (with_reducible refine HW.out.mono ?_); rintro r w1 ⟨rfl, v1, ht1⟩; have HT1 := Lib.hid (pw_left HC.out ht1); obtain ⟨q0, q1, q2, q3, -, -, -, -⟩ := Blk.four (Blk.beside (pw_l HH.out) (Blk.new w #[.int .i64 4, .int .i64 n, .bool b, .string t] 36) (Nat.le_refl _) ht1); clear ht1; have HX1 := Lib.hid (show x.xown.holds w1 from HT1.out.now.2.1))
    | (go_at_call 67; (with_reducible refine (HX.out _ HX1.out).mono ?_); rintro r w2 ⟨rfl, v2, ht2⟩; have HT2 := Lib.hid (pw_right HT1.out ht2); clear ht2))
  go_ret
  exact ⟨rfl, v1, v2, HT2.out⟩
theorem write_none (s x : WrS) (it : ItA) (w : World) (h : (pw s x).holds w) (he : x.bs = s.bs) (hb : x.bad = s.bad) (hk : it.kind < 1 ∨ 5 < it.kind) :
    Calls Try.prog 17 #[.pointer (some ⟨s.g, 0, none⟩), .pointer (some ⟨x.g, 0, none⟩), .agg it.cells] w (WrOk s x it w) := by
  obtain ⟨k, n, b, t⟩ := it
  have HW := Lib.hid (wrB_none s.bs s.bad hk)
  have hk' : k < 1 ∨ 5 < k := hk
  have d1 : (k == 1) = false := by simp; omega
  have d2 : (k == 2) = false := by simp; omega
  have d3 : (k == 3) = false := by simp; omega
  have d4 : (k == 4) = false := by simp; omega
  have d5 : (k == 5) = false := by simp; omega
  have HC := Lib.hid ((Turns.refl h).alloc (.cells #[.int .i64 k, .int .i64 n, .bool b, .string t] 36))
  have HE := Lib.hid he
  have HB := Lib.hid hb
  clear h he hb hk hk'
  show Calls Try.prog 17 #[.pointer (some ⟨s.g, 0, none⟩), .pointer (some ⟨x.g, 0, none⟩), .agg #[.int .i64 k, .int .i64 n, .bool b, .string t]] w _
  go_enter Try.func17, Try.ntmps17
  go_wp2_with fail
  go_ret
  refine ⟨rfl, s.v, x.v, ?_⟩
  rw [HW.out]
  have h := HC.out
  show Turns _ _ _ (pw s (WrS.mk x.g x.v s.bs s.bad))
  have e : WrS.mk x.g x.v s.bs s.bad = x := by rw [← HE.out, ← HB.out]
  rw [e]
  exact h
theorem src0 (w : World) (t : ByteArray) (c b0 : Nat) (hb0 : b0 = w.heap.size) : Src (Lib.bytesWorld w 5 t) (.slice (some ⟨b0, 0, none⟩) t.size c) t.size 1 (t.data.toList.map bv) := by
  subst hb0
  have h := bytesWorld_src w 5 t c
  rw [size_len] at h
  exact h
theorem src_head {w : World} {g n m c : Nat} {xs ys : List Value} (h : w.ownsRow 0 5 1 (.slice (some ⟨g, 0, none⟩) m c) m (xs ++ ys)) (hx : xs.length = n) (c' : Nat) : Src w (.slice (some ⟨g, 0, none⟩) n c') n 1 xs := by
  refine ⟨by omega, Or.inr ⟨⟨g, 0, none⟩, c', rfl, fun j u hu => ?_⟩⟩
  exact World.ownsRow.cells (g := g) h rfl j u (by rw [List.getElem?_append_left (List.getElem?_eq_some_iff.1 hu).1]; exact hu)
theorem lw_s {s x s' : WrS} {L : Hp.Own} {w W W' : World} {O : Hp.Own} (h : Turns w W O (Hp.Own.both L (pw s x))) (t : Turns W W' s.own s'.own) : Turns w W' O (Hp.Own.both L (pw s' x)) := h.trans (Turns.rightT h.now (Turns.left h.now.2.1 t))
theorem lw_x {s x x' : WrS} {L : Hp.Own} {w W W' : World} {O : Hp.Own} (h : Turns w W O (Hp.Own.both L (pw s x))) (t : Turns W W' x.xown x'.xown) : Turns w W' O (Hp.Own.both L (pw s x')) := h.trans (Turns.rightT h.now (Turns.rightT h.now.2.1 t))
theorem lw_far_s {s x : WrS} {L : Hp.Own} {w : World} (h : (Hp.Own.both L (pw s x)).holds w) {b : Nat} (hb : L.foot b) : ¬ s.own.foot b := fun hf => h.2.2 b hb (Or.inl hf)
theorem far_head {s x : WrS} {w : World} {gl m c n c' : Nat} {xs ys : List Value} (h : (Hp.Own.both (Hp.Own.row 5 1 (.slice (some ⟨gl, 0, none⟩) m c) m ys) (pw s x)).holds w) (hs : Src w (.slice (some ⟨gl, 0, none⟩) n c') n 1 xs) : ∀ w', Chg s.own.foot w w' → Src w' (.slice (some ⟨gl, 0, none⟩) n c') n 1 xs :=
  fun w' hc => Src.far hs hc (fun hf => h.2.2 gl rfl (Or.inl hf))
theorem far_src0 {x : WrS} (w : World) (t : ByteArray) (c : Nat) (h : x.xown.holds w) : ∀ w', Chg x.xown.foot (Lib.bytesWorld w 5 t) w' → Src w' (.slice (some ⟨w.heap.size, 0, none⟩) t.size c) t.size 1 (t.data.toList.map bv) :=
  fun w' hc => Src.far (src0 w t c w.heap.size rfl) hc (fun hf => Nat.lt_irrefl _ (x.xown.lt h _ hf))
theorem write_bytes (s x : WrS) (n : Int) (b : Bool) (t : ByteArray) (w : World) (h : (pw s x).holds w) (he : x.bs = s.bs) (hb : x.bad = s.bad) (hl : s.bs.length + t.size + 10 ≤ 140737488300000) :
    Calls Try.prog 17 #[.pointer (some ⟨s.g, 0, none⟩), .pointer (some ⟨x.g, 0, none⟩), .agg (ItA.mk 5 n b t).cells] w (WrOk s x ⟨5, n, b, t⟩ w) := by
  have hcv := fun (w : World) (x : ByteArray) => Lib.run_convert_string_bytes (P := Try.prog) w 9 38 5 x Try.underlying9 Try.underlying38 Try.underlying5
  obtain ⟨W0, hW0⟩ : ∃ W0, w.alloc (.cells #[.int .i64 5, .int .i64 n, .bool b, .string t] 36) = W0 := ⟨_, rfl⟩
  have hs0 : W0.heap.size = w.heap.size + 1 := by rw [← hW0]; simp
  have HC := Lib.hid (show Turns w W0 (pw s x) (pw s x) from hW0 ▸ (Turns.refl h).alloc (.cells #[.int .i64 5, .int .i64 n, .bool b, .string t] 36))
  have HB0 := Lib.hid (show Blk W0 w.heap.size #[.int .i64 5, .int .i64 n, .bool b, .string t] 36 from hW0 ▸ Blk.new w _ _)
  have HW0 := Lib.hid hW0
  have HS0 := Lib.hid hs0
  have HLE : Hid (∀ c, Calls Try.prog 24 #[.slice (some ⟨w.heap.size + 1, 0, none⟩) t.size c] (Lib.bytesWorld W0 5 t) fun r w' => ∃ gl, r = .returned (.slice (some ⟨gl, 0, none⟩) (t.size + 8) (t.size + 8)) ∧ Turns (Lib.bytesWorld W0 5 t) w' Hp.Own.emp (Hp.Own.row 5 1 (.slice (some ⟨gl, 0, none⟩) (t.size + 8) (t.size + 8)) (t.size + 8) (lentC t.data.toList 8))) :=
    Lib.hid (fun c => (lent_any (some ⟨w.heap.size + 1, 0, none⟩) t.size c t.data.toList (Lib.bytesWorld W0 5 t) (src0 W0 t c (w.heap.size + 1) hs0.symm) (by omega)).mono (fun r w' h => ⟨_, h.1, h.2⟩))
  have HNS := Lib.hid (show ¬ s.own.foot w.heap.size from fun hf => Nat.lt_irrefl _ (s.own.lt (pw_l h) _ hf))
  have HNX := Lib.hid (show ¬ x.xown.foot w.heap.size from fun hf => Nat.lt_irrefl _ (x.xown.lt (pw_r h) _ hf))
  have HSW := Lib.hid (fun W A c h hx hf => w_bytes s W n b t A c h hx hf (by omega))
  have HXW := Lib.hid (fun W A c h hx hf => x_bytes x W n b t A c h hx hf (by rw [he]; omega))
  have HST := Lib.hid (fun A B c d W hs ht => still_yes A B t.size c d t.data.toList W hs ht (by omega))
  have HH := Lib.hid h
  have hB1 : Blk (Lib.bytesWorld W0 5 t) w.heap.size #[.int .i64 5, .int .i64 n, .bool b, .string t] 36 := HB0.out.chg (bytesWorld_chg W0 5 t) (fun h => h)
  have HB1 := Lib.hid hB1
  have hsz : (Lib.bytesWorld W0 5 t).heap.size = W0.heap.size + 1 := Lib.bytesWorld_size _ _ _
  have HSZ := Lib.hid hsz
  obtain ⟨q0, q1, q2, q3, -, -, -, -⟩ := Blk.four HB0.out
  unfold WP at HSW
  unfold XP at HXW
  rw [he, hb] at HXW
  have htb : t.size ≤ 140737488300000 := by omega
  show Calls Try.prog 17 #[.pointer (some ⟨s.g, 0, none⟩), .pointer (some ⟨x.g, 0, none⟩), .agg #[.int .i64 5, .int .i64 n, .bool b, .string t]] w _
  clear h hB1 hsz hW0
  have hq9 : t.size ≤ t.size + 8 := by omega
  go_enter Try.func17, Try.ntmps17
  go_wp2_with (first
    | (go_at_call 24; rw [HW0.out]; (with_reducible refine (HLE.out _).mono ?_); rintro r w1 ⟨gl, rfl, ht1⟩; have HT1 := Lib.hid ((HC.out.kept (bytesWorld_chg W0 5 t)).trans (Turns.add (HC.out.kept (bytesWorld_chg W0 5 t)).now ht1)); have HB1' := Lib.hid (HB1.out.chg ht1.chg (fun h => h)); clear ht1; clear q0 q1 q2 q3; obtain ⟨q0, q1, q2, q3, -, -, -, -⟩ := Blk.four HB1'.out; have HSR := Lib.hid (src_head (show w1.ownsRow 0 5 1 (.slice (some ⟨gl, 0, none⟩) (t.size + 8) (t.size + 8)) (t.size + 8) (t.data.toList.map bv ++ (List.replicate 8 (.int .u8 165) ++ List.replicate (8 - 8) (.int .u8 0))) from HT1.out.now.1) (by rw [List.length_map, size_len]) (t.size + 8)); have HFS := Lib.hid (far_head HT1.out.now HSR.out); have HSH := Lib.hid (pw_l (show (pw s x).holds w1 from HT1.out.now.2.1)))
    | (go_at_call 68; (with_reducible refine (HSW.out _ _ _ HSH.out HSR.out HFS.out).mono ?_); rintro r w2 ⟨rfl, v1, ht2⟩; have HT2 := Lib.hid (lw_s HT1.out ht2); have HB2 := Lib.hid (HB1'.out.chg ht2.chg HNS.out); clear ht2; clear q0 q1 q2 q3; obtain ⟨q0, q1, q2, q3, -, -, -, -⟩ := Blk.four HB2.out; have HT2' := Lib.hid (HT2.out.kept (bytesWorld_chg w2 5 t)); have HXH := Lib.hid (show x.xown.holds (Lib.bytesWorld w2 5 t) from HT2'.out.now.2.1.2.1); have HSR2 := Lib.hid (fun c => src0 w2 t c w2.heap.size rfl); have HFX := Lib.hid (fun c => far_src0 (x := x) w2 t c (show x.xown.holds w2 from HT2.out.now.2.1.2.1)))
    | (go_at_call 69; (with_reducible refine (HXW.out _ _ _ HXH.out (HSR2.out _) (HFX.out _)).mono ?_); rintro r w4 ⟨rfl, v2, ht4⟩; have HT4 := Lib.hid (lw_x HT2'.out ht4); have HB4 := Lib.hid ((HB2.out.chg (bytesWorld_chg w2 5 t) (fun h => h)).chg ht4.chg HNX.out); clear ht4; clear q0 q1 q2 q3; obtain ⟨q0, q1, q2, q3, -, -, -, -⟩ := Blk.four HB4.out; have HT4' := Lib.hid (HT4.out.kept (bytesWorld_chg w4 5 t)); have HSL := Lib.hid (Src.of_own (show (Lib.bytesWorld w4 5 t).ownsRow 0 5 1 (.slice (some ⟨gl, 0, none⟩) (t.size + 8) (t.size + 8)) (t.size + 8) (lentC t.data.toList 8) from HT4'.out.now.1)); have HSR4 := Lib.hid (fun c => src0 w4 t c w4.heap.size rfl))
    | (go_at_call 27; (with_reducible refine (HST.out _ _ _ _ _ HSL.out (HSR4.out _)).mono ?_); rintro r w6 ⟨rfl, q6, hq6⟩; have hc6 : Chg (fun _ => False) (Lib.bytesWorld w4 5 t) w6 := (by rw [← hq6]; exact (Chg.refl _ _).drewN _); have HT6 := Lib.hid (HT4'.out.kept hc6); clear hq6 hc6))
  clear q0 q1 q2 q3
  go_loopw [9] (fun x9 wr => ∃ (i : Nat) (ys : List Value), x9 = .int .i64 i ∧ i ≤ t.size + 8 ∧ Turns w wr (pw s x) (Hp.Own.both (Hp.Own.row 5 1 (.slice (some ⟨gl, 0, none⟩) (t.size + 8) (t.size + 8)) (t.size + 8) ys) (pw (WrS.mk s.g v1 (wrB s.bs s.bad ⟨5, n, b, t⟩).1 (wrB s.bs s.bad ⟨5, n, b, t⟩).2) (WrS.mk x.g v2 (wrB s.bs s.bad ⟨5, n, b, t⟩).1 (wrB s.bs s.bad ⟨5, n, b, t⟩).2)))) (fun x9 _ => t.size + 8 - (intOf x9).toNat)
  case atStart => exact ⟨0, _, rfl, Nat.zero_le _, HT6.out⟩
  case round =>
    obtain ⟨i, ys, rfl, hi, ht⟩ := hrel
    have HT := Lib.hid ht
    have hrow : wr.ownsRow 0 5 1 (.slice (some ⟨gl, 0, none⟩) (t.size + 8) (t.size + 8)) (t.size + 8) ys := ht.now.1
    have HRW := Lib.hid hrow
    clear ht hrow
    by_cases hlt : i < t.size + 8
    · have hd : decide ((i : Int) < ((t.size + 8 : Nat) : Int)) = true := by simp; omega
      have hd' : decide (i < t.size + 8) = true := by simpa using hlt
      obtain ⟨u, _, hc, hf⟩ := row_there HRW.out i hlt
      go_wp2_with fail
      go_roundw
      case rel => exact ⟨i + 1, _, by simp, by omega, HT.out.trans (Turns.left HT.out.now (Turns.row_set HRW.out i (.int .u8 90)))⟩
      case measure => simp [intOf]; omega
    · have hd : decide ((i : Int) < ((t.size + 8 : Nat) : Int)) = false := by simp; omega
      have hd' : decide (i < t.size + 8) = false := by simpa using hlt
      go_wp2_with fail
      go_ret
      exact ⟨rfl, v1, v2, HT.out.dropL⟩
theorem write_any (s x : WrS) (it : ItA) (w : World) (h : (pw s x).holds w) (he : x.bs = s.bs) (hb : x.bad = s.bad) (hf : it.fits) (hl : s.bs.length + it.s.size + 10 ≤ 140737488300000) :
    Calls Try.prog 17 #[.pointer (some ⟨s.g, 0, none⟩), .pointer (some ⟨x.g, 0, none⟩), .agg it.cells] w (WrOk s x it w) := by
  obtain ⟨k, n, b, t⟩ := it
  have hl' : s.bs.length + t.size + 10 ≤ 140737488300000 := hl
  by_cases h1 : k = 1
  · subst h1; exact write_num s x n b t w h he hb hf.2.1.1 hf.2.1.2 (by omega)
  · by_cases h2 : k = 2
    · subst h2; exact write_signed s x n b t w h he hb hf.2.1.1 hf.2.1.2 (by omega)
    · by_cases h3 : k = 3
      · subst h3; exact write_bool s x n b t w h he hb (by omega)
      · by_cases h4 : k = 4
        · subst h4; exact write_text s x n b t w h he hb (by omega)
        · by_cases h5 : k = 5
          · subst h5; exact write_bytes s x n b t w h he hb hl'
          · exact write_none s x ⟨k, n, b, t⟩ w h he hb (show k < 1 ∨ 5 < k by omega)
end Go.Proofs.Ytkpgdonpmfebaaa.Bt
