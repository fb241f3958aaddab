/- The gauge's law: GaugeAdds. -/
import Derived.Test.YtgoimoaeeiobnaaGaSw
import Derived.Test.YtgoimoaeeiobnaaGaAr
namespace Go.Proofs.Ytgoimoaeeiobnaa.Ga
open Go.RowKit Go.Hp Go.Fl
set_option linter.unusedSimpArgs false
set_option linter.unusedVariables false
set_option maxRecDepth 100000
def TruePost (w : World) (e : Ending) (w' : World) : Prop := e = .returned (.bool true) ∧ Chg (fun _ => False) w w'
theorem adds_many (A B : Option Addr) (n m c d : Nat) (w : World) (h : 4096 < n ∨ 4096 < m) :
    Calls Try.prog 6 #[.slice A n c, .slice B m d] w (TruePost w) := by
  go_enter Try.func6, Try.ntmps6
  go_wp2_with (first
    | (go_at_call 13; (with_reducible refine (shown_any _).mono ?_); rintro r w1 ⟨rfl, hc1⟩; have HC1 := Lib.hid hc1; clear hc1)
    | (go_at_call 24; (with_reducible refine (bars_many _ _ _ _ _ _ _ h).mono ?_); rintro r w2 ⟨rfl, rfl⟩))
  go_ret
  exact ⟨rfl, HC1.out⟩
theorem adds_arg (A B : Option Addr) (n m c d : Nat) (es : List Int) (w : World) (hn : n ≤ 4096) (hm : m ≤ 4096) (hs : Sl w B es) (hl : es.length = m) (hi : ¬ Inc es) :
    Calls Try.prog 6 #[.slice A n c, .slice B m d] w (TruePost w) := by
  have HA := Lib.hid (fun W hw => bars_arg A B n m c d es W hn hm hw hl hi)
  have HS := Lib.hid hs
  clear hs hl hi hn hm
  go_enter Try.func6, Try.ntmps6
  go_wp2_with (first
    | (go_at_call 13; (with_reducible refine (shown_any _).mono ?_); rintro r w1 ⟨rfl, hc1⟩; have HC1 := Lib.hid hc1; clear hc1)
    | (go_at_call 24; (with_reducible refine (HA.out _ (HS.out.keep HC1.out)).mono ?_); rintro r w2 ⟨rfl, hc2⟩; have HC2 := Lib.hid hc2; clear hc2))
  go_ret
  exact ⟨rfl, HC1.out.trans HC2.out⟩
theorem count_split (l : List Int) (f : Int → Nat) (i : Nat) : l.countP (fun y => f y < i + 1) = l.countP (fun y => f y < i) + l.countP (fun y => f y == i) := by
  induction l with
  | nil => rfl
  | cons x xs ih =>
    simp only [List.countP_cons, ih]
    rcases Nat.lt_trichotomy (f x) i with h | h | h
    · simp [h, show f x < i + 1 by omega, show ¬ f x = i by omega]; omega
    · simp [h]; omega
    · simp [show ¬ f x < i + 1 by omega, show ¬ f x < i by omega, show ¬ f x = i by omega]
theorem bars_at (A B : Option Addr) (n m M c d : Nat) (hM : M = m + 1) (l es : List Int) (w : World) (hn : n ≤ 4096) (hm : m ≤ 4096) (hs : Sl w B es) (hsl : Sl w A l) (hl : es.length = m) (hll : l.length = n) (hinc : Inc es) :
    Calls Try.prog 24 #[.slice A n c, .slice B m d] w fun e w' => ∃ g c, e = .returned (.tuple #[.slice (some ⟨g, 0, none⟩) M c, .int .i64 0]) ∧ Turns w w' Own.emp (Own.row 3 1 (.slice (some ⟨g, 0, none⟩) M c) M ((barsOf l es).map (Value.int .i64))) := by
  refine (bars_ok A B n m c d l es w hn hm hs hsl hl hll hinc).mono ?_
  rintro e w' ⟨c, rfl, ht⟩
  rw [hl, ← hM] at ht ⊢
  exact ⟨_, c, rfl, ht⟩
theorem adds_ok (A B : Option Addr) (n m c d : Nat) (l es : List Int) (w : World) (hn : n ≤ 4096) (hm : m ≤ 4096) (hs : Sl w B es) (hsl : Sl w A l) (hl : es.length = m) (hll : l.length = n) (hi : Inc es) :
    Calls Try.prog 6 #[.slice A n c, .slice B m d] w (TruePost w) := by
  have hM : ∃ M, M = m + 1 := ⟨_, rfl⟩
  obtain ⟨M, hM⟩ := hM
  have HA := Lib.hid (fun W h1 h2 => bars_at A B n m M c d hM l es W hn hm h1 h2 hl hll hi)
  have HBK := Lib.hid (fun x => bucket_le x hi.sorted)
  have HS := Lib.hid hs
  have HSL := Lib.hid hsl
  have HL := Lib.hid hl
  have HLL := Lib.hid hll
  have hw : IntKind.i64.wrap ((m : Int) + 1) = (M : Int) := by rw [IntWalk.i64_in _ (by omega)]; omega
  have HM := Lib.hid hM
  have hMn : M ≤ 4097 := by omega
  clear hs hsl hl hll hi hM
  go_enter Try.func6, Try.ntmps6
  go_wp2_with (first
    | (go_at_call 13; (with_reducible refine (shown_any _).mono ?_); rintro r w1 ⟨rfl, hc1⟩; have HC1 := Lib.hid hc1; clear hc1)
    | (go_at_call 24; (with_reducible refine (HA.out _ (HS.out.keep HC1.out) (HSL.out.keep HC1.out)).mono ?_); rintro r w2 ⟨g, cc, rfl, ht⟩; have HT := Lib.hid ht; clear ht))
  go_loopw [7, 8] (fun x7 x8 wr => ∃ i s : Nat, x8 = .int .i64 i ∧ i ≤ M ∧ x7 = .int .i64 s ∧ s = l.countP (fun y => bucket es y < i) ∧ ∃ q, w2.drewN q = wr) (fun x7 x8 _ => M - (intOf x8).toNat)
  case atStart => exact ⟨0, 0, rfl, Nat.zero_le _, rfl, by simp, 0, rfl⟩
  case round =>
    obtain ⟨i, s, rfl, hin, rfl, hsum, q, rfl⟩ := hrel
    have hs0 : s ≤ 4096 := by have := List.countP_le_length (p := fun y => decide (bucket es y < i)) (l := l); have := HLL.out; omega
    have HSUM := Lib.hid hsum
    clear hsum
    by_cases hlt : i < M
    · have hd : decide ((i : Int) < (M : Int)) = true := by simp; omega
      have hd' : decide (i < M) = true := by simp; omega
      obtain ⟨u, hu1, hu2, hu3⟩ := row_there HT.out.now i hlt
      rw [List.getElem?_map, barsOf_get _ _ _ (by have := HM.out; have := HL.out; omega)] at hu1
      simp at hu1
      subst hu1
      obtain ⟨v, hv⟩ : ∃ v : Nat, l.countP (fun y => bucket es y == i) = v := ⟨_, rfl⟩
      have hsp := count_split l (bucket es) i
      rw [hv] at hu2 hsp
      have hle := List.countP_le_length (p := fun y => decide (bucket es y < i + 1)) (l := l)
      have hall : s + v ≤ 4096 := by have := HSUM.out; have := HLL.out; omega
      obtain ⟨z, hz⟩ : ∃ z, z = s + v := ⟨_, rfl⟩
      have HZ : Hid (z = l.countP (fun y => bucket es y < i + 1)) := Lib.hid (by rw [hz, hsp, HSUM.out])
      have hwz : IntKind.i64.wrap ((s : Int) + (v : Int)) = (z : Int) := by rw [IntWalk.i64_in _ (by omega)]; omega
      have hv0 : ¬ (v : Int) < 0 := by omega
      have hu2' : (w2.drewN q).cell? ⟨g, i, none⟩ = some (.int .i64 v) := hu2
      clear hv hsp hle hu3 hall hz
      go_wp2_with fail
      go_roundw
      case rel => exact ⟨i + 1, z, by simp, by omega, rfl, HZ.out, q, rfl⟩
      case measure => simp [intOf]; omega
    · have hd : decide ((i : Int) < (M : Int)) = false := by simp; omega
      have hd' : decide (i < M) = false := by simp; omega
      have hsn : s = n := by
        rw [HSUM.out, List.countP_eq_length.2 (fun x _ => by have := HBK.out x; have := HM.out; have := HL.out; simp; omega), HLL.out]
      subst hsn
      have hMM : (M : Int) = (M : Int) := rfl
      go_wp2_with fail
      go_ret
      exact ⟨rfl, (HC1.out.trans HT.out.chg).drewN _⟩
theorem adds_all (v0 v1 : Value) (w : World) (h0 : ArgOk Try.prog w 22 v0) (h1 : ArgOk Try.prog w 22 v1) :
    Calls Try.prog 6 #[v0, v1] w fun e w' => e = .returned (.bool true) ∧ Below w.heap.size w w' := by
  obtain ⟨A, l, c, rfl, _, hs⟩ := ints_sl h0
  obtain ⟨B, es, d, rfl, _, ht⟩ := ints_sl h1
  have key : Calls Try.prog 6 #[.slice A l.length c, .slice B es.length d] w (TruePost w) := by
    by_cases hn : l.length ≤ 4096
    · by_cases hm : es.length ≤ 4096
      · by_cases hi : Inc es
        · exact adds_ok A B _ _ c d l es w hn hm ht hs rfl rfl hi
        · exact adds_arg A B _ _ c d es w hn hm ht rfl hi
      · exact adds_many A B _ _ c d w (by omega)
    · exact adds_many A B _ _ c d w (by omega)
  refine key.mono ?_
  rintro e w' ⟨he, hc⟩
  exact ⟨he, hc.below (fun k h => h.elim) (Nat.le_refl _)⟩
end Go.Proofs.Ytgoimoaeeiobnaa.Ga
