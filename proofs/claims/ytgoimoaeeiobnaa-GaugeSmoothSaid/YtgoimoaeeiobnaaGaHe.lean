/- The gauge: the law's helpers copied, lent, still, turned, sameMeasure. -/
import Derived.Test.YtgoimoaeeiobnaaGaFt
import Derived.Test.YtgoimoaeeiobnaaKp
namespace Go.Proofs.Ytgoimoaeeiobnaa.Ga
open Go.RowKit Go.Hp Go.Fl
set_option linter.unusedSimpArgs false
set_option linter.unusedVariables false
set_option maxRecDepth 100000
attribute [local go_sem] run_store_float
def iv (zs : List Int) : List Value := zs.map (Value.int .i64)
theorem iv_len (zs : List Int) : (iv zs).length = zs.length := by unfold iv; simp
theorem iv_app (zs ys : List Int) : iv (zs ++ ys) = iv zs ++ iv ys := by unfold iv; simp
theorem iv_one (zs : List Int) : ∀ u ∈ iv zs, u.oneCell' = true := by unfold iv; simp [Value.oneCell']
theorem Sl.src {w : World} {A : Option Addr} {zs : List Int} {n c : Nat} (h : Sl w A zs) (hl : zs.length = n) (hA : n = 0 → A = none ∨ ∃ a, A = some a) : Src w (.slice A n c) n 1 (iv zs) := by
  refine ⟨by rw [iv_len]; omega, ?_⟩
  rcases h with h | ⟨b, off, rfl, hb, hc⟩
  · subst h
    have hn : n = 0 := by simpa using hl.symm
    subst hn
    rcases A with _ | a
    · exact Or.inl ⟨c, rfl, rfl⟩
    · exact Or.inr ⟨a, c, rfl, fun j u hj => by simp [iv] at hj⟩
  · refine Or.inr ⟨⟨b, off, none⟩, c, rfl, fun j u hj => ?_⟩
    have hjl : j < zs.length := by have := (List.getElem?_eq_some_iff.1 hj).1; rwa [iv_len] at this
    have ha : (⟨b, off, none⟩ : Addr).add j = ⟨b, off + j, none⟩ := by unfold Addr.add; split <;> simp_all
    rw [ha, hc j hjl]
    unfold iv at hj
    rw [List.getElem?_map, List.getElem?_eq_getElem hjl] at hj
    exact hj
theorem Sl.srcs {w : World} {A : Option Addr} {zs : List Int} {n c : Nat} (h : Sl w A zs) (hl : zs.length = n) : Src w (.slice A n c) n 1 (iv zs) := h.src hl (fun _ => by cases A <;> simp)
theorem copied_any (A : Option Addr) (n c : Nat) (zs : List Int) (w : World) (hs : Sl w A zs) (hl : zs.length = n) (hn : n * 8 ≤ 140737488355328) :
    Calls Try.prog 20 #[.slice A n c] w fun e w' => ∃ X cx, e = .returned (.slice X n cx) ∧ Turns w w' Own.emp (Own.row 3 1 (.slice X n cx) n (iv zs)) := by
  obtain ⟨ij, hij, hzaj, hzbj, hzcj⟩ := info_parts Try.info3
  have HR0 : Hid (Turns w (w.alloc (.cells #[] 3)) Own.emp (Own.row 3 1 (.slice (some ⟨w.heap.size, 0, none⟩) 0 0) 0 [])) := Lib.hid (Turns.row_lit w Own.emp #[] 3 1 0 (by simp [maxLen]) rfl)
  have HS := Lib.hid ((hs.alloc (.cells #[] 3)).srcs (c := c) hl)
  have H1 := Lib.hid (iv_one zs)
  clear hs hl
  go_enter Try.func20, Try.ntmps20
  go_wp2_with (first
    | (at_builtin; refine wpList_appS _ rfl (.tmp 5) (.tmp 6) 22 rfl 3 ij (.int .i64 0) 1 8 Try.underlying22 hij hzaj hzbj hzcj rfl (by decide) (.slice (some ⟨w.heap.size, 0, none⟩) 0 0) 0 [] rfl HR0.out.now (.slice A n c) n (iv zs) rfl HS.out H1.out (by simp only [maxLen]; omega) (by omega) ?_; intro A4 c4 w4 ht4; have HT4 := Lib.hid ht4; clear ht4))
  go_ret
  refine ⟨A4, c4, by simp, ?_⟩
  have h := HR0.out.trans HT4.out
  simpa using h
theorem lent_any (A : Option Addr) (n c : Nat) (zs : List Int) (w : World) (hs : Sl w A zs) (hl : zs.length = n) (hn : (n + 8) * 8 ≤ 140737488355328) :
    Calls Try.prog 14 #[.slice A n c] w fun e w' => ∃ g cx, e = .returned (.slice (some ⟨g, 0, none⟩) (n + 8) cx) ∧ n + 8 ≤ cx ∧ Turns w w' Own.emp (Own.row 3 1 (.slice (some ⟨g, 0, none⟩) (n + 8) cx) (n + 8) (iv (zs ++ rep 8 (-77)))) := by
  obtain ⟨ij, hij, hzaj, hzbj, hzcj⟩ := info_parts Try.info3
  have HC := Lib.hid (copied_any A n c zs w hs hl (by omega))
  clear hs hl
  go_enter Try.func14, Try.ntmps14
  go_wp2_with (first
    | (go_at_call 20; (with_reducible refine HC.out.mono ?_); rintro r w1 ⟨X, cx, rfl, ht⟩; have HT := Lib.hid ht; clear ht))
  have H0 : Hid (Turns w w1 Own.emp (Own.row 3 1 (.slice X (n + 0) cx) (n + 0) (iv (zs ++ rep 0 (-77))))) := by
    have e : zs ++ rep 0 (-77) = zs := by simp [rep]
    rw [e]
    exact HT
  go_loopw [3, 4] (fun x2 x3 wr => ∃ (k : Nat) (X : Option Addr) (cx m : Nat), x3 = .int .i64 k ∧ k ≤ 8 ∧ m = n + k ∧ x2 = .slice X m cx ∧ (0 < k → ∃ g, X = some ⟨g, 0, none⟩ ∧ m ≤ cx) ∧ Turns w wr Own.emp (Own.row 3 1 (.slice X m cx) m (iv (zs ++ rep k (-77))))) (fun _ x3 _ => 8 - (intOf x3).toNat)
  case atStart => exact ⟨0, X, cx, n, rfl, by omega, rfl, rfl, fun h => absurd h (by omega), H0.out⟩
  case round =>
    obtain ⟨k, X, cx, m, rfl, hk, hm, rfl, hX, ht⟩ := hrel
    have HR := Lib.hid ht
    have HM := Lib.hid hm
    clear ht
    by_cases hlt : k < 8
    · have hd : decide ((k : Int) < 8) = true := by simp; omega
      have hd' : decide (k < 8) = true := by simp; omega
      have hst : iv (zs ++ rep (k + 1) (-77)) = iv (zs ++ rep k (-77)) ++ [.int .i64 (-77)] := by rw [rep_snoc, ← List.append_assoc, iv_app]; rfl
      have HST := Lib.hid hst
      have hm8 : m + 1 ≤ 17592186044416 := by omega
      clear hst hm
      go_wp2_with (first
        | (at_builtin; refine wpList_app1 _ rfl (.tmp 11) (.tmp 12) 22 rfl 3 ij (.int .i64 0) 1 8 Try.underlying22 hij hzaj hzbj hzcj rfl (by decide) (.slice X m cx) m (iv (zs ++ rep k (-77))) rfl _ _ _ rfl (by first | rfl | simp) HR.out.now rfl (by simp [Value.oneCell']) (by simp only [maxLen]; omega) (by omega) ?_; intro g4 c4 w4 hc4 ht4; have HT4 := Lib.hid ht4; clear ht4))
      go_roundw
      case rel =>
        refine ⟨k + 1, _, _, m + 1, by simp, by omega, by have := HM.out; omega, rfl, fun _ => ⟨_, rfl, by assumption⟩, ?_⟩
        have h2 := HR.out.trans HT4.out
        rw [HST.out]
        exact h2
      case measure => simp [intOf]; omega
    · obtain rfl : k = 8 := by omega
      obtain ⟨g, rfl, hc⟩ := hX (by omega)
      subst hm
      have hd : decide (((8 : Nat) : Int) < 8) = false := by simp
      go_wp2_with fail
      go_ret
      exact ⟨g, cx, rfl, hc, HR.out⟩
theorem rep_get' (ys : List Int) (k i : Nat) (x : Int) (h1 : ys.length ≤ i) (h2 : i < ys.length + k) : (ys ++ rep k x).getD i 0 = x := by
  have : (ys ++ rep k x)[i]? = some x := by
    rw [List.getElem?_append_right h1]
    unfold rep
    rw [List.getElem?_replicate, if_pos (by omega)]
  simp [List.getD, this]
theorem app_get' (ys zs : List Int) (i : Nat) (h : i < ys.length) : (ys ++ zs).getD i 0 = ys.getD i 0 := by
  simp [List.getD, List.getElem?_append_left h]
theorem still_yes (A B : Option Addr) (m c d : Nat) (ys : List Int) (w : World) (hs : Sl w A (ys ++ rep 8 (-77))) (ht : Sl w B ys) (hm : ys.length = m) (hn : m * 8 ≤ 140737488355328) :
    Calls Try.prog 18 #[.slice A (m + 8) c, .slice B m d] w fun e w' => e = .returned (.bool true) ∧ ∃ q, w.drewN q = w' := by
  have HS := Lib.hid hs
  have HT := Lib.hid ht
  have HM := Lib.hid hm
  clear hs ht hm
  have hw : IntKind.i64.wrap ((m : Int) + 8) = ((m + 8 : Nat) : Int) := by rw [IntWalk.i64_in _ (by omega)]; omega
  obtain ⟨n, hnm⟩ : ∃ n, m + 8 = n := ⟨_, rfl⟩
  rw [hnm] at hw ⊢
  have HN := Lib.hid hnm
  have hnb : n ≤ 17592186044424 := by omega
  clear hnm
  go_enter Try.func18, Try.ntmps18
  go_wp2_with fail
  go_loopw [5] (fun x5 wr => ∃ i : Nat, x5 = .int .i64 i ∧ i ≤ n ∧ ∃ q, w.drewN q = wr) (fun x5 _ => n - (intOf x5).toNat)
  case atStart => exact ⟨0, rfl, Nat.zero_le _, 0, rfl⟩
  case round =>
    obtain ⟨i, rfl, hin, q, rfl⟩ := hrel
    by_cases hlt : i < n
    · have hd : decide ((i : Int) < (n : Int)) = true := by simp; omega
      have hd' : decide (i < n) = true := by simp; omega
      have hiz : i < (ys ++ rep 8 (-77)).length := by rw [List.length_append, rep_len, HM.out]; have := HN.out; omega
      obtain ⟨b, off, rfl, hb, hc⟩ := HS.out.cells (fun h => by rw [h] at hiz; simp at hiz)
      have c0 := hc i hiz
      by_cases him : i < m
      · have hiy : i < ys.length := by rw [HM.out]; exact him
        rw [app_get' _ _ _ hiy] at c0
        obtain ⟨b', off', rfl, hb', hc'⟩ := HT.out.cells (fun h => by subst h; simp at hiy)
        have c1 := hc' i hiy
        generalize ys.getD i 0 = x at *
        have c0' : (w.drewN q).cell? ⟨b, off + i, none⟩ = some (.int .i64 x) := c0
        have c1' : (w.drewN q).cell? ⟨b', off' + i, none⟩ = some (.int .i64 x) := c1
        have e1 : decide ((i : Int) < (m : Int)) = true := by simp; omega
        have e1' : decide (i < m) = true := by simp; omega
        have e2 : decide ((m : Int) ≤ (i : Int)) = false := by simp; omega
        have e2' : decide (m ≤ i) = false := by simp; omega
        have q1 : decide (x = x) = true := by simp
        clear hc hc'
        go_wp2_with fail
        go_quiet (fail)
        go_wp2_with fail
        go_roundw
        case rel => exact ⟨i + 1, by simp, by omega, _, rfl⟩
        case measure => simp [intOf]; omega
      · rw [rep_get' _ _ _ _ (by rw [HM.out]; omega) (by rw [HM.out]; have := HN.out; omega)] at c0
        have c0' : (w.drewN q).cell? ⟨b, off + i, none⟩ = some (.int .i64 (-77)) := c0
        have e1 : decide ((i : Int) < (m : Int)) = false := by simp; omega
        have e1' : decide (i < m) = false := by simp; omega
        have e2 : decide ((m : Int) ≤ (i : Int)) = true := by simp; omega
        have e2' : decide (m ≤ i) = true := by simp; omega
        clear hc
        go_wp2_with fail
        go_quiet (fail)
        go_wp2_with fail
        go_roundw
        case rel => exact ⟨i + 1, by simp, by omega, _, rfl⟩
        case measure => simp [intOf]; omega
    · have hd : decide ((i : Int) < (n : Int)) = false := by simp; omega
      have hd' : decide (i < n) = false := by simp; omega
      go_wp2_with fail
      go_ret
      exact ⟨rfl, q, rfl⟩
theorem turned_any (g n c m cx : Nat) (zs ys : List Int) (w : World) (hs : (Own.row 3 1 (.slice (some ⟨g, 0, none⟩) m cx) m (iv (zs ++ ys))).holds w) (hl : zs.length = n) (hn : n * 8 ≤ 140737488355328) :
    Calls Try.prog 19 #[.slice (some ⟨g, 0, none⟩) n c] w fun e w' => e = .returned (.tuple #[]) ∧ ∃ xs : List Int, xs.length = n ∧ I64 xs ∧ Turns w w' (Own.row 3 1 (.slice (some ⟨g, 0, none⟩) m cx) m (iv (zs ++ ys))) (Own.row 3 1 (.slice (some ⟨g, 0, none⟩) m cx) m (iv (xs ++ ys))) := by
  have HL := Lib.hid hl
  clear hl
  have H0 := Lib.hid (Turns.refl hs)
  go_enter Try.func19, Try.ntmps19
  go_wp2_with fail
  go_loopw [2] (fun x1 wr => ∃ (i : Nat) (xs us : List Int), x1 = .int .i64 i ∧ xs.length = i ∧ I64 xs ∧ i + us.length = n ∧ Turns w wr (Own.row 3 1 (.slice (some ⟨g, 0, none⟩) m cx) m (iv (zs ++ ys))) (Own.row 3 1 (.slice (some ⟨g, 0, none⟩) m cx) m (iv (xs ++ (us ++ ys))))) (fun x1 _ => n - (intOf x1).toNat)
  case atStart => exact ⟨0, [], zs, rfl, rfl, fun x hx => (by cases hx), by simp [HL.out], H0.out⟩
  case round =>
    obtain ⟨i, xs, us, rfl, hxl, hxi, hus, ht⟩ := hrel
    have HR := Lib.hid ht
    have HXI := Lib.hid hxi
    have HXL := Lib.hid hxl
    have HU := Lib.hid hus
    clear ht hxi hxl hus
    by_cases hlt : i < n
    · have hd : decide ((i : Int) < (n : Int)) = true := by simp; omega
      have hd' : decide (i < n) = true := by simp; omega
      obtain ⟨x, us, rfl⟩ : ∃ x us', us = x :: us' := by
        cases us with
        | nil => have := HU.out; simp at this; omega
        | cons x us' => exact ⟨x, us', rfl⟩
      have him : i < m := by
        have h1 := (show wr.ownsRow 0 3 1 _ m _ from HR.out.now).1
        rw [iv_len] at h1
        simp at h1
        have := HXL.out
        omega
      obtain ⟨u, hu1, hu2, hu3⟩ := row_there HR.out.now i him
      have hm1 : (iv (xs ++ (x :: us ++ ys)))[i]? = some (.int .i64 x) := by unfold iv; rw [List.getElem?_map, List.getElem?_append_right (by have := HXL.out; omega)]; simp [HXL.out]
      rw [hm1] at hu1
      obtain rfl := Option.some.inj hu1
      clear hu1 hm1
      have key : ∀ v : Int, -9223372036854775808 ≤ v ∧ v ≤ 9223372036854775807 → Hid (Turns wr (wr.setCell ⟨g, i, none⟩ (.int .i64 v)) (Own.row 3 1 (.slice (some ⟨g, 0, none⟩) m cx) m (iv (xs ++ (x :: us ++ ys)))) (Own.row 3 1 (.slice (some ⟨g, 0, none⟩) m cx) m (iv ((xs ++ [v]) ++ (us ++ ys))))) := fun v _ => by
        have h := Turns.row_set (w := wr) HR.out.now i (.int .i64 v)
        have e : (iv (xs ++ (x :: us ++ ys))).set i (.int .i64 v) = iv ((xs ++ [v]) ++ (us ++ ys)) := by
          have hi : i = (iv xs).length := by rw [iv_len, HXL.out]
          rw [iv_app, hi, List.set_append_right _ _ (Nat.le_refl _), Nat.sub_self, iv_app (xs ++ [v]), iv_app xs [v], List.append_assoc]
          rfl
        rw [e] at h
        exact Lib.hid h
      have KEY := Lib.hid key
      clear key
      have hnb : n ≤ 17592186044416 := by omega
      go_wp2_with fail
      go_roundw
      case rel =>
        obtain ⟨v, hv⟩ : ∃ v, wrap64 (wrap64 (x.tdiv 2) + (i : Int) % 5) = v := ⟨_, rfl⟩
        have hvr : -9223372036854775808 ≤ v ∧ v ≤ 9223372036854775807 := by rw [← hv]; unfold wrap64; omega
        refine ⟨i + 1, xs ++ [v], us, by simp, by simp [HXL.out], ?_, by have := HU.out; simp at this; omega, ?_⟩
        · intro y hy
          rcases List.mem_append.1 hy with hy | hy
          · exact HXI.out y hy
          · obtain rfl : y = v := by simpa using hy
            exact hvr
        · rw [hv]
          exact HR.out.trans (KEY.out v hvr).out
      case measure => simp [intOf]; omega
    · have hd : decide ((i : Int) < (n : Int)) = false := by simp; omega
      have hd' : decide (i < n) = false := by simp; omega
      have hu0 : us = [] := List.eq_nil_of_length_eq_zero (by have := HU.out; omega)
      subst hu0
      obtain rfl : n = i := by have := HU.out; simp at this; omega
      go_wp2_with fail
      refine bodyPost_end (results_none rfl _ _ _) rfl ?_
      exact ⟨rfl, xs, HXL.out, HXI.out, HR.out⟩
theorem sameM_yes (a b c f g : Nat) (x y z : Int) (w : World) (hf : Ieee.double.order f f = some .eq) (hg : Ieee.double.order g g = some .eq) :
    Calls Try.prog 17 #[.agg #[.int .i64 x, .int .i64 y, .int .i64 z, .float .f64 f, .float .f64 g], .agg #[.int .i64 x, .int .i64 y, .int .i64 z, .float .f64 f, .float .f64 g]] w (TruePost w) := by
  have q1 : decide (x = x) = true := by simp
  have q2 : decide (y = y) = true := by simp
  have q3 : decide (z = z) = true := by simp
  have hf' : FloatKind.f64.format.order f f = some .eq := hf
  have hg' : FloatKind.f64.format.order g g = some .eq := hg
  go_enter Try.func17, Try.ntmps17
  go_wp2_with fail
  go_ret
  exact ⟨rfl, ((Chg.refl _ _).alloc _).alloc _⟩
end Go.Proofs.Ytgoimoaeeiobnaa.Ga
