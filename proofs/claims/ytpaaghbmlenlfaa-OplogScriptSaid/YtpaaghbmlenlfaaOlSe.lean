/- The law's lists that are lent: lent, still, spoil. -/
import Derived.Test.YtpaaghbmlenlfaaOlSc
namespace Go.Proofs.Ytpaaghbmlenlfaa.Ol
open Go.Hp.M7
open Go.RowKit Go.Hp
attribute [local go_sem] min2_lean min_two max2_lean max_two
set_option linter.unusedSimpArgs false
set_option linter.unusedVariables false
set_option maxRecDepth 100000
def lentE : En := ⟨-5, 55, 0, ByteArray.empty, ByteArray.empty, 0, 0⟩
abbrev lentL (l : List En) : List En := l ++ [lentE, lentE, lentE]
theorem EnS.keepL {w w' : World} {A : Option Addr} {l : List En} {S : Nat → Prop} (h : EnS w A l) (hc : Chg S w w') (hS : ∀ b off, A = some ⟨b, off, none⟩ → 0 < l.length → ¬ S b) : EnS w' A l := fun i e hi => by
  have hl : 0 < l.length := Nat.lt_of_le_of_lt (Nat.zero_le _) (List.getElem?_eq_some_iff.1 hi).1
  exact (h.chg hc (fun b off ha => hS b off ha hl)) i e hi
theorem wpList_copyM {P : Program} (w : World) {ops : Array Oper} {rest : List Oper} {o : Oper} {a : Act} {Q : Exit → Act → World → Prop} (hgd : o.guard = none) (x0 x : Operand) (t : TypeId)
    (ho : o.op = .call { callee := .builtin .append, args := #[x0, x], argTypes := #[t, t] })
    (e : TypeId) (i : TypeInfo) (z : Value) (size bytes : Nat) (ht : P.underlying t = some (.slice e)) (hi : P.info? e = some i) (hz : i.zero = some z)
    (hsize : i.size = size) (hby : i.bytes = bytes) (hzs : z.cells.size = size) (hsz : 0 < size) (hx0 : a.eval x0 = .slice none 0 0)
    (v : Value) (m : Nat) (news : List Value) (hx : a.eval x = v) (hsrc : Src w v m size news)
    (h1 : ∀ u ∈ news, u.oneCell' = true) (h63 : m ≤ maxLen) (hbytes : m * bytes ≤ 140737488355328)
    (h : ∀ A c w', Turns w w' Hp.Own.emp (Hp.Own.row e size (.slice A m c) m news) → wpList P ops Q rest (a.put o.dst (.slice A m c)) w') :
    wpList P ops Q (o :: rest) a w := by
  have hown : w.ownsRow 0 e size (.slice none 0 0) 0 [] := World.ownsRow_nil _ _ _ _
  refine wpList_append_src w hgd x0 x t ho 0 e i z size bytes ht hi hz hsize hby hzs hsz _ 0 [] hx0 hown v m news hx hsrc h1 (by omega) (by simpa using hbytes) (Nat.zero_le _) ?_
  intro v' w' ho' hg' hat
  rw [Nat.zero_add, List.nil_append] at ho'
  obtain ⟨A, c, rfl⟩ := row_slice ho'
  have h0 : Turns w w Hp.Own.emp (Hp.Own.row e size (.slice none 0 0) 0 []) := ⟨Chg.refl _ _, hown, fun b hb => by cases hb⟩
  exact h A c w' (h0.trans (Turns.row ho' hg' hat))
/-- The beginning of a row. -/
theorem row_cut {w : World} {g m n c s : Nat} {E : TypeId} {xs : List Value} (h : w.ownsRow 0 E s (.slice (some ⟨g, 0, none⟩) m c) m xs) (hn : n ≤ m) : w.ownsRow 0 E s (.slice (some ⟨g, 0, none⟩) n c) n (xs.take (n * s)) := by
  have hle : n * s ≤ m * s := Nat.mul_le_mul_right _ hn
  refine ⟨by have := h.1; simp; omega, ?_⟩
  rcases h.2 with ⟨hv, _⟩ | ⟨g', cap, cur, hv, h1, h2, h3, h4, h5, h6⟩
  · cases hv
  · obtain ⟨e1, _, e3⟩ := Value.slice.inj hv
    simp only [Option.some.injEq, Addr.mk.injEq, and_true] at e1
    subst e1 e3
    exact Or.inr ⟨g, c, cur, rfl, h1, h2, by omega, h4, h5, by rw [← h6, List.take_take, Nat.min_eq_left hle]⟩
theorem lent_take (l m : List En) : (flat (l ++ m)).take (l.length * 7) = flat l := by
  rw [flat_append, List.take_append_of_le_length (by rw [flat_len]; exact Nat.le_refl _), List.take_of_length_le (by rw [flat_len]; exact Nat.le_refl _)]
theorem lent_row {w : World} {g n d : Nat} {l : List En} (h : w.ownsRow 0 51 7 (.slice (some ⟨g, 0, none⟩) (n + 3) d) (n + 3) (flat (lentL l))) (hn : l.length = n) : w.ownsRow 0 51 7 (.slice (some ⟨g, 0, none⟩) n d) n (flat l) := by
  subst hn
  have := row_cut h (n := l.length) (by omega)
  rwa [lent_take] at this
set_option maxHeartbeats 2000000 in
theorem lent_any (A : Option Addr) (n c : Nat) (l : List En) (w : World) (h : EnS w A l) (hn : l.length = n) (hb : n * 72 ≤ 140737488351232) :
    Calls Try.prog 63 #[.slice A n c] w fun e w' => ∃ g d, n + 3 ≤ d ∧ e = .returned (.slice (some ⟨g, 0, none⟩) n d) ∧ Turns w w' Hp.Own.emp (Hp.Own.row 51 7 (.slice (some ⟨g, 0, none⟩) (n + 3) d) (n + 3) (flat (lentL l))) := by
  obtain ⟨ij, hij, hzaj, hzbj, hzcj⟩ := info_parts Try.info51
  have HS := Lib.hid (show Src w (.slice A n c) n 7 (flat l) from by rw [← hn]; exact h.src)
  have HN := Lib.hid hn
  have hn0 : (0 : Int) ≤ (n : Int) := Int.natCast_nonneg _
  clear h hn
  go_enter Try.func63, Try.ntmps63
  go_wp2_with (first
    | (at_builtin; refine wpList_copyM _ rfl (.const (.slice none 0 0)) (.tmp 4) 52 rfl 51 ij (.agg En.zero.cells.toArray) 7 72 Try.underlying52 hij hzaj hzbj hzcj rfl (by decide) rfl (.slice A n c) n (flat l) rfl HS.out (flat_one_cell l) (by simp only [maxLen]; omega) (by omega) ?_; intro A6 c6 w6 ht6; have HT6 := Lib.hid ht6; clear ht6))
  go_loopw [3, 6] (fun x3 x6 wr => ∃ (q m : Nat) (A' : Option Addr) (c' : Nat), x6 = .int .i64 q ∧ q ≤ 3 ∧ m = n + q ∧ x3 = .slice A' m c' ∧ Turns w wr Hp.Own.emp (Hp.Own.row 51 7 (.slice A' m c') m (flat (l ++ List.replicate q lentE)))) (fun _ x6 _ => 3 - (intOf x6).toNat)
  case atStart => exact ⟨0, n, A6, c6, rfl, by omega, rfl, rfl, by simpa using HT6.out⟩
  case round =>
    clear HT6 HS
    obtain ⟨q, m, A', c', rfl, hq, hm, rfl, ht⟩ := hrel
    have HMM := Lib.hid hm
    have hmb : m ≤ n + 3 := by omega
    have HT := Lib.hid ht
    clear ht hm
    by_cases hlt : q < 3
    · have hd : decide ((q : Int) < 3) = true := by simp; omega
      have hd' : decide (q < 3) = true := by simp; omega
      go_wp2_with (first
        | (at_builtin; refine wpList_appKM _ rfl (.tmp 8) (.tmp 10) 52 rfl 51 ij (.agg En.zero.cells.toArray) 72 Try.underlying52 hij hzaj hzbj hzcj rfl (.slice A' m c') m (flat (l ++ List.replicate q lentE)) rfl _ _ _ rfl (by first | rfl | simp) HT.out.now rfl (by exact lentE.one) (by simp only [maxLen]; omega) (by omega) ?_; intro g7 c7 w7 hc7 ht7 hs7 hn7; have HT7 := Lib.hid (HT.out.trans ht7); clear ht7 hs7 hn7))
      go_roundw
      case rel =>
        refine ⟨q + 1, m + 1, _, _, by simp, by omega, by have := HMM.out; omega, rfl, ?_⟩
        have h : Turns w w7 Hp.Own.emp (Hp.Own.row 51 7 (.slice (some ⟨g7, 0, none⟩) (m + 1) c7) (m + 1) (flat (l ++ List.replicate q lentE) ++ lentE.cells)) := HT7.out
        rw [← flat_one lentE, ← flat_append, List.append_assoc, ← List.replicate_succ'] at h
        exact h
      case measure => simp [intOf]; omega
    · have hq3 : q = 3 := by omega
      subst hq3
      have hd : decide (((3 : Nat) : Int) < 3) = false := by simp
      have hm3 := HMM.out
      subst hm3
      obtain ⟨g, d, e1, hgl, hcd⟩ := row_form HT.out.now (by omega)
      obtain ⟨rfl, _, rfl⟩ := Value.slice.inj e1
      have hcm : n ≤ c' := by omega
      clear e1
      go_wp2_with fail
      exact bodyPost_ret (v := .slice (some ⟨g, 0, none⟩) n c') (by simp [results, Try.results63, go_sem, *]) rfl ⟨g, c', by omega, rfl, HT.out⟩
theorem still_any (g d : Nat) (A : Option Addr) (n c : Nat) (l : List En) (w : World) (h : (Hp.Own.row 51 7 (.slice (some ⟨g, 0, none⟩) (n + 3) d) (n + 3) (flat (lentL l))).holds w) (he : EnS w A l) (hn : l.length = n) (hb : n * 72 ≤ 140737488351232) :
    Calls Try.prog 64 #[.slice (some ⟨g, 0, none⟩) n d, .slice A n c] w fun e w' => e = .returned (.bool true) ∧ Chg (fun _ => False) w w' := by
  have H := Lib.hid h
  have HE := Lib.hid he
  have HN := Lib.hid hn
  have hnd : n + 3 ≤ d := by obtain ⟨_, _, e1, _, hc⟩ := row_form h (by omega); obtain ⟨_, _, rfl⟩ := Value.slice.inj e1; exact hc
  have hn0 : (0 : Int) ≤ (n : Int) := Int.natCast_nonneg _
  have hw3 : IntKind.i64.wrap ((n : Int) + 3) = ((n + 3 : Nat) : Int) := by rw [IntWalk.i64_in _ (by omega)]; omega
  have hi1 : (n : Int) ≤ ((n + 3 : Nat) : Int) := by omega
  have hi2 : ((n + 3 : Nat) : Int) ≤ (d : Int) := by omega
  clear h he hn
  go_enter Try.func64, Try.ntmps64
  go_wp2_with fail
  rw [Nat.add_sub_cancel_left]
  generalize d - n = dd
  have hw0 : 0 ≤ w.heap.size := Nat.zero_le _
  go_loopw [15] (fun x15 wr => ∃ i : Nat, x15 = .int .i64 i ∧ i ≤ 3 ∧ Chg (fun _ => False) w wr) (fun x15 _ => 3 - (intOf x15).toNat)
  case atStart => exact ⟨0, rfl, by omega, Chg.refl _ _⟩
  case round =>
    obtain ⟨i, rfl, hi, hc⟩ := hrel
    have HC := Lib.hid hc
    have H2 := Lib.hid (Own.chg H.out hc (fun _ _ h => h))
    clear hc
    by_cases hlt : i < 3
    · have hd : decide ((i : Int) < 3) = true := by simp; omega
      have hd' : decide (i < 3) = true := by simp; omega
      have hi0 : (0 : Int) ≤ (i : Int) := Int.natCast_nonneg _
      have hi1 : (i : Int) < ((3 : Nat) : Int) := by omega
      have hi3 : (i : Int) < 3 := by omega
      have he : (lentL l)[n + i]? = some lentE := by
        rw [List.getElem?_append_right (by have := HN.out; omega)]
        have : n + i - l.length = i := by have := HN.out; omega
        rw [this]
        obtain rfl | rfl | rfl : i = 0 ∨ i = 1 ∨ i = 2 := by omega
        · rfl
        · rfl
        · rfl
      obtain ⟨⟨p0, p1, p2, p3, p4, p5, p6⟩, -, hlo⟩ := row_en H2.out he
      rw [Nat.add_mul] at p0 p1 p2 p3 p4 p5 p6
      simp only [lentE] at p0 p1 p2 p3 p4 p5 p6
      clear he
      go_wp2_with fail
      go_roundw
      case rel => exact ⟨i + 1, by simp, by omega, HC.out.alloc _⟩
      case measure => simp [intOf]; omega
    · have hd : decide ((i : Int) < 3) = false := by simp; omega
      have hd' : decide (i < 3) = false := by simp; omega
      have hr := EnS.of_row (l := l) (c := d) (by rw [HN.out]; exact lent_row H2.out HN.out)
      have HS := Lib.hid (same_any (some ⟨g, 0, none⟩) A n d c l wr hr (HE.out.chg HC.out (fun _ _ _ h => h)) HN.out (by omega))
      clear hr
      go_wp2_with (first
        | (go_at_call 53; (with_reducible refine HS.out.mono ?_); rintro r w2 ⟨rfl, hc2⟩))
      exact bodyPost_ret (v := .bool true) (by simp [results, Try.results64, go_sem, *]) rfl ⟨rfl, HC.out.trans hc2⟩
set_option maxHeartbeats 2000000 in
theorem spoil_any (A : Option Addr) (n c : Nat) (l : List En) (e : En) (w : World) (h : (Hp.Own.row 51 7 (.slice A n c) n (flat l)).holds w) (hb : n * 72 ≤ 140737488351232) :
    Calls Try.prog 65 #[.slice A n c, .agg e.cells.toArray] w fun r w' => r = .returned (.tuple #[]) ∧ ∃ O', Turns w w' (Hp.Own.row 51 7 (.slice A n c) n (flat l)) O' := by
  obtain ⟨ij, hij, hzaj, hzbj, hzcj⟩ := info_parts Try.info51
  have H0 := Lib.hid ((Turns.refl h).push e.cells.toArray 51)
  have HON := Lib.hid e.one
  obtain ⟨ec, en, ek, em, et, eu, eo⟩ := e
  have hmw : (En.mk ec en ek em et eu eo).cells.toArray = #[.int .i64 ec, .int .i64 en, .int .i64 ek, .string em, .string et, .int .i64 eu, .int .i64 eo] := rfl
  rw [hmw] at H0 ⊢
  clear h hmw
  go_enter Try.func65, Try.ntmps65
  go_wp2_with fail
  go_loopw [7] (fun x7 wr => ∃ (i : Nat) (l' : List En), x7 = .int .i64 i ∧ i ≤ n ∧ Turns w wr (Hp.Own.row 51 7 (.slice A n c) n (flat l)) (Hp.Own.both (Hp.Own.blk w.heap.size #[.int .i64 ec, .int .i64 en, .int .i64 ek, .string em, .string et, .int .i64 eu, .int .i64 eo] 51) (Hp.Own.row 51 7 (.slice A n c) n (flat l')))) (fun x7 _ => n - (intOf x7).toNat)
  case atStart => exact ⟨0, l, rfl, Nat.zero_le _, H0.out⟩
  case round =>
    clear H0
    obtain ⟨i, l', rfl, hi, ht⟩ := hrel
    have HT := Lib.hid ht
    clear ht
    by_cases hlt : i < n
    · have hd : decide ((i : Int) < (n : Int)) = true := by simp; omega
      have hd' : decide (i < n) = true := by simp; omega
      have hi0 : (0 : Int) ≤ (i : Int) := Int.natCast_nonneg _
      have hi1 : (i : Int) < (n : Int) := by omega
      obtain ⟨g, d, e1, hgl, hcd⟩ := row_form HT.out.n1 (by omega)
      obtain ⟨rfl, _, rfl⟩ := Value.slice.inj e1
      have hll : l'.length = n := by have := HT.out.n1.1; rw [flat_len] at this; omega
      obtain ⟨x, hx⟩ : ∃ x, l'[i]? = some x := ⟨l'[i]'(by omega), List.getElem?_eq_getElem _⟩
      obtain ⟨⟨p0, p1, p2, p3, p4, p5, p6⟩, pf, hlo⟩ := row_en HT.out.n1 hx
      have hne : g ≠ w.heap.size := fun e => HT.out.now.2.2 w.heap.size rfl (by show some g = some _; rw [e])
      have pf0 := pf 0 (by omega)
      have pf1 := pf 1 (by omega)
      have pf2 := pf 2 (by omega)
      have pf3 := pf 3 (by omega)
      have pf4 := pf 4 (by omega)
      have pf5 := pf 5 (by omega)
      have pf6 := pf 6 (by omega)
      rw [Nat.add_zero] at pf0
      have z0 : wr.cell? ⟨w.heap.size, 0, none⟩ = some (.int .i64 ec) := HT.out.b0.cell 0
      have z1 : wr.cell? ⟨w.heap.size, 1, none⟩ = some (.int .i64 en) := HT.out.b0.cell 1
      have z2 : wr.cell? ⟨w.heap.size, 2, none⟩ = some (.int .i64 ek) := HT.out.b0.cell 2
      have z3 : wr.cell? ⟨w.heap.size, 3, none⟩ = some (.string em) := HT.out.b0.cell 3
      have z4 : wr.cell? ⟨w.heap.size, 4, none⟩ = some (.string et) := HT.out.b0.cell 4
      have z5 : wr.cell? ⟨w.heap.size, 5, none⟩ = some (.int .i64 eu) := HT.out.b0.cell 5
      have z6 : wr.cell? ⟨w.heap.size, 6, none⟩ = some (.int .i64 eo) := HT.out.b0.cell 6
      obtain ⟨xc, xn, xk, xm, xt, xu, xo⟩ := x
      have HL := Lib.hid hll
      clear pf e1 hx hll
      go_wp2_with fail
      go_roundw
      case rel => exact ⟨i + 1, l'.set i ⟨ec, en, ek, em, et, eu, eo⟩, by simp, by omega, HT.out.at1 (row_put HT.out.n1 i ⟨ec, en, ek, em, et, eu, eo⟩ (by rw [HL.out]; exact hlt))⟩
      case measure => simp [intOf]; omega
    · have hd : decide ((i : Int) < (n : Int)) = false := by simp; omega
      have hd' : decide (i < n) = false := by simp; omega
      go_wp2_with fail
      go_loopw [0, 15] (fun x0 x15 wr => ∃ (q m : Nat) (A' : Option Addr) (c' : Nat) (l' : List En), x15 = .int .i64 q ∧ q ≤ 5 ∧ m = n + q ∧ x0 = .slice A' m c' ∧ Turns w wr (Hp.Own.row 51 7 (.slice A n c) n (flat l)) (Hp.Own.both (Hp.Own.blk w.heap.size #[.int .i64 ec, .int .i64 en, .int .i64 ek, .string em, .string et, .int .i64 eu, .int .i64 eo] 51) (Hp.Own.row 51 7 (.slice A' m c') m (flat l')))) (fun _ x15 _ => 5 - (intOf x15).toNat)
      case atStart => exact ⟨0, n, A, c, l', rfl, by omega, rfl, rfl, HT.out⟩
      case round =>
        clear HT
        obtain ⟨q, m, A', c', l', rfl, hq, hm, rfl, ht⟩ := hrel
        have HMM := Lib.hid hm
        have hmb : m ≤ n + 5 := by omega
        have HT := Lib.hid ht
        clear ht hm
        by_cases hlt : q < 5
        · have hd : decide ((q : Int) < 5) = true := by simp; omega
          have hd' : decide (q < 5) = true := by simp; omega
          have z0 : wr.cell? ⟨w.heap.size, 0, none⟩ = some (.int .i64 ec) := HT.out.b0.cell 0
          have z1 : wr.cell? ⟨w.heap.size, 1, none⟩ = some (.int .i64 en) := HT.out.b0.cell 1
          have z2 : wr.cell? ⟨w.heap.size, 2, none⟩ = some (.int .i64 ek) := HT.out.b0.cell 2
          have z3 : wr.cell? ⟨w.heap.size, 3, none⟩ = some (.string em) := HT.out.b0.cell 3
          have z4 : wr.cell? ⟨w.heap.size, 4, none⟩ = some (.string et) := HT.out.b0.cell 4
          have z5 : wr.cell? ⟨w.heap.size, 5, none⟩ = some (.int .i64 eu) := HT.out.b0.cell 5
          have z6 : wr.cell? ⟨w.heap.size, 6, none⟩ = some (.int .i64 eo) := HT.out.b0.cell 6
          go_wp2_with (first
            | (at_builtin; refine wpList_appKM _ rfl (.tmp 17) (.tmp 19) 52 rfl 51 ij (.agg En.zero.cells.toArray) 72 Try.underlying52 hij hzaj hzbj hzcj rfl (.slice A' m c') m (flat l') rfl _ _ _ rfl (by first | rfl | simp) HT.out.n1 rfl (by exact HON.out) (by simp only [maxLen]; omega) (by omega) ?_; intro g7 c7 w7 hc7 ht7 hs7 hn7; have HT7 := Lib.hid (HT.out.at1 ht7); clear ht7 hs7 hn7))
          go_roundw
          case rel =>
            refine ⟨q + 1, m + 1, _, _, l' ++ [⟨ec, en, ek, em, et, eu, eo⟩], by simp, by omega, by have := HMM.out; omega, rfl, ?_⟩
            rw [flat_append, flat_one]
            exact HT7.out
          case measure => simp [intOf]; omega
        · have hd : decide ((q : Int) < 5) = false := by simp; omega
          have hd' : decide (q < 5) = false := by simp; omega
          go_wp2_with fail
          exact bodyPost_end (results_none rfl _ _ _) rfl ⟨rfl, _, HT.out⟩
end Go.Proofs.Ytpaaghbmlenlfaa.Ol
