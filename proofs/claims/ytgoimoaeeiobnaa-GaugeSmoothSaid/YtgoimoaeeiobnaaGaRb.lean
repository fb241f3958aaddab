/- The gauge: the reference's Bars. -/
import Derived.Test.YtgoimoaeeiobnaaGaHe
namespace Go.Proofs.Ytgoimoaeeiobnaa.Ga
open Go.RowKit Go.Hp Go.Fl
set_option linter.unusedSimpArgs false
set_option linter.unusedVariables false
set_option maxRecDepth 100000
attribute [local go_sem] run_store_float
theorem sorted_at {es : List Int} (h : es.Pairwise (· < ·)) (x : Int) : ∀ j (hj : j < es.length), es[j] ≤ x ↔ j < es.countP (· ≤ x) := by
  induction es with
  | nil => intro j hj; simp at hj
  | cons a l ih =>
    have hl := List.pairwise_cons.1 h
    intro j hj
    by_cases ha : a ≤ x
    · rw [List.countP_cons_of_pos (by simpa using ha)]
      cases j with
      | zero => simpa using ha
      | succ j =>
        have := ih hl.2 j (by simpa using hj)
        simp only [List.getElem_cons_succ]
        omega
    · rw [List.countP_cons_of_neg (by simpa using ha)]
      have h0 : l.countP (· ≤ x) = 0 := by
        rw [List.countP_eq_zero]
        intro y hy
        have := hl.1 y hy
        simp
        omega
      rw [h0]
      cases j with
      | zero => simpa using ha
      | succ j =>
        have h2 : a < l[j]'(by simpa using hj) := hl.1 _ (List.getElem_mem _)
        simp only [List.getElem_cons_succ]
        omega
theorem bucket_count {es : List Int} (h : es.Pairwise (· < ·)) (x : Int) : bucket es x = es.countP (· ≤ x) := by
  unfold bucket
  induction es with
  | nil => rfl
  | cons a l ih =>
    have hl := List.pairwise_cons.1 h
    have ih := ih hl.2
    rcases Int.lt_trichotomy a x with h1 | h1 | h1
    · rw [List.countP_cons_of_pos (by simpa using h1), List.countP_cons_of_pos (by simp; omega), ← ih]
      have : (a :: l).contains x = l.contains x := by simp [show ¬ x = a by omega]
      rw [this]
      omega
    · subst h1
      have h0 : l.countP (· ≤ a) = 0 := by
        rw [List.countP_eq_zero]
        intro y hy
        have := hl.1 y hy
        simp
        omega
      have h2 : l.countP (· < a) = 0 := by
        rw [List.countP_eq_zero]
        intro y hy
        have := hl.1 y hy
        simp
        omega
      rw [List.countP_cons_of_neg (by simp), List.countP_cons_of_pos (by simp), h0, h2]
      simp
    · have h0 : l.countP (· ≤ x) = 0 := by
        rw [List.countP_eq_zero]
        intro y hy
        have := hl.1 y hy
        simp
        omega
      rw [List.countP_cons_of_neg (by simp; omega), List.countP_cons_of_neg (by simp; omega), ← ih]
      have : (a :: l).contains x = l.contains x := by simp [show ¬ x = a by omega]
      rw [this]
theorem bucket_iff {es : List Int} (h : es.Pairwise (· < ·)) (x : Int) (i : Nat) (hi : i ≤ es.length) :
    bucket es x = i ↔ ((i = 0 ∨ es.getD (i - 1) 0 ≤ x) ∧ (i = es.length ∨ x < es.getD i 0)) := by
  rw [bucket_count h]
  have hc : es.countP (· ≤ x) ≤ es.length := List.countP_le_length
  have key : ∀ j, j < es.length → (es.getD j 0 ≤ x ↔ j < es.countP (· ≤ x)) := fun j hj => by
    have := sorted_at h x j hj
    have e : es.getD j 0 = es[j] := by simp [List.getD, hj]
    rw [e]
    exact this
  constructor
  · intro e
    refine ⟨?_, ?_⟩
    · rcases Nat.eq_zero_or_pos i with h0 | h0
      · exact Or.inl h0
      · exact Or.inr ((key (i - 1) (by omega)).2 (by omega))
    · rcases Nat.lt_or_ge i es.length with h0 | h0
      · right
        have := key i h0
        omega
      · left; omega
  · rintro ⟨h1, h2⟩
    have a1 : i ≤ es.countP (· ≤ x) := by
      rcases h1 with h1 | h1
      · omega
      · rcases Nat.eq_zero_or_pos i with h0 | h0
        · omega
        · have := (key (i - 1) (by omega)).1 h1
          omega
    have a2 : es.countP (· ≤ x) ≤ i := by
      rcases h2 with h2 | h2
      · omega
      · rcases Nat.lt_or_ge i es.length with h0 | h0
        · have := key i h0
          omega
        · omega
    omega
theorem rbars_many (A B : Option Addr) (n m c d : Nat) (w : World) (h : 4096 < n ∨ 4096 < m) :
    Calls Try.prog 23 #[.slice A n c, .slice B m d] w fun e w' => e = .returned (.tuple #[.slice none 0 0, .int .i64 220]) ∧ w = w' := by
  by_cases h1 : 4096 < n
  · have d1 : decide (4096 < n) = true := by simpa using h1
    have d2 : decide ((4096 : Int) < (n : Int)) = true := by simp; omega
    go_enter Try.func23, Try.ntmps23
    go_wp2
    go_ret2
    exact ⟨rfl, rfl⟩
  · have h2 : 4096 < m := by omega
    have d1 : decide (4096 < n) = false := by simpa using h1
    have d2 : decide ((4096 : Int) < (n : Int)) = false := by simp; omega
    have d3 : decide (4096 < m) = true := by simpa using h2
    have d4 : decide ((4096 : Int) < (m : Int)) = true := by simp; omega
    have q : n ≤ 4096 := by omega
    clear h h1
    go_enter Try.func23, Try.ntmps23
    go_wp2
    go_ret2
    exact ⟨rfl, rfl⟩
set_option maxHeartbeats 1000000 in
theorem rbars_arg (A B : Option Addr) (n m c d : Nat) (es : List Int) (w : World) (hn : n ≤ 4096) (hm : m ≤ 4096) (hs : Sl w B es) (hl : es.length = m) (hinc : ¬ Inc es) :
    Calls Try.prog 23 #[.slice A n c, .slice B m d] w (ArgPost w) := by
  have d1 : decide (4096 < n) = false := by simp; omega
  have d2 : decide ((4096 : Int) < (n : Int)) = false := by simp; omega
  have d3 : decide (4096 < m) = false := by simp; omega
  have d4 : decide ((4096 : Int) < (m : Int)) = false := by simp; omega
  have hne : es ≠ [] := fun h => hinc (by subst h; intro j hj; simp at hj)
  obtain ⟨b, off, rfl, hb, hc⟩ := hs.cells hne
  have HC := Lib.hid hc
  have HL := Lib.hid hl
  have HI := Lib.hid hinc
  clear hs hc hl hinc hne
  go_enter Try.func23, Try.ntmps23
  go_wp2_with fail
  clear d1 d2 d3 d4
  go_loopw [6] (fun x6 wr => ∃ j k : Nat, x6 = .int .i64 k ∧ k = j + 1 ∧ (∀ i, i < j → i + 1 < es.length → es.getD i 0 < es.getD (i + 1) 0) ∧ ∃ q, w.drewN q = wr) (fun x6 _ => m + 1 - (intOf x6).toNat)
  case atStart => exact ⟨0, 1, rfl, rfl, fun i hi => by omega, 0, rfl⟩
  case round =>
    obtain ⟨j, k, rfl, hk, hj, q, rfl⟩ := hrel
    have HJ := Lib.hid hj
    have HK := Lib.hid hk
    clear hj
    have hjm : k < m := by
      rcases Nat.lt_or_ge k m with h | h
      · exact h
      · exfalso
        exact HI.out fun i hi => HJ.out i (by rw [HL.out] at hi; omega) hi
    have hj2 : j < m := by omega
    have hd : decide ((k : Int) < (m : Int)) = true := by simp; omega
    have hd' : decide (k < m) = true := by simp; omega
    have c0 : (w.drewN q).cell? ⟨b, off + j, none⟩ = some (.int .i64 (es.getD j 0)) := HC.out j (by rw [HL.out]; omega)
    have c1 : (w.drewN q).cell? ⟨b, off + k, none⟩ = some (.int .i64 (es.getD k 0)) := HC.out k (by rw [HL.out]; omega)
    have c2 : w.cell? ⟨b, off + j, none⟩ = some (.int .i64 (es.getD j 0)) := HC.out j (by rw [HL.out]; omega)
    have c3 : w.cell? ⟨b, off + k, none⟩ = some (.int .i64 (es.getD k 0)) := HC.out k (by rw [HL.out]; omega)
    have hw : IntKind.i64.wrap ((k : Int) - 1) = (j : Int) := by rw [IntWalk.i64_in _ (by omega)]; omega
    by_cases hlt : es.getD j 0 < es.getD k 0
    · have HLT := Lib.hid hlt
      have HE := Lib.hid (show ∃ a b, es.getD j 0 = a ∧ es.getD (j + 1) 0 = b ∧ a < b from ⟨_, _, rfl, rfl, by rw [← HK.out]; exact hlt⟩)
      obtain ⟨v, hv⟩ : ∃ v, es.getD k 0 = v := ⟨_, rfl⟩
      obtain ⟨u, hu⟩ : ∃ u, es.getD j 0 = u := ⟨_, rfl⟩
      rw [hu] at c0 c2
      rw [hv] at c1 c3
      rw [hu, hv] at hlt
      clear hu hv HLT
      have q1 : decide (v ≤ u) = false := by simp; omega
      clear hlt hk
      go_wp2_with fail
      go_quiet (fail)
      clear hw
      go_wp2_with fail
      go_roundw
      case rel =>
        refine ⟨k, k + 1, by simp, rfl, fun i hi h => ?_, _, rfl⟩
        rcases Nat.lt_or_ge i j with h1 | h1
        · exact HJ.out i h1 h
        · have : i = j := by have := HK.out; omega
          subst this
          obtain ⟨_, _, rfl, rfl, h3⟩ := HE.out
          exact h3
      case measure => simp [intOf]; omega
    · generalize es.getD k 0 = v at *
      generalize es.getD j 0 = u at *
      have q1 : decide (v ≤ u) = true := by simp; omega
      clear hlt hk
      go_wp2_with fail
      go_quiet (fail)
      go_wp2_with fail
      go_ret2
      exact ⟨rfl, (Chg.refl _ _).drewN q |>.drewN _⟩
theorem rbars_ok (A B : Option Addr) (n m c d : Nat) (l es : List Int) (w : World) (hn : n ≤ 4096) (hm : m ≤ 4096) (hs : Sl w B es) (hsl : Sl w A l) (hl : es.length = m) (hll : l.length = n) (hinc : Inc es) :
    Calls Try.prog 23 #[.slice A n c, .slice B m d] w fun e w' => ∃ X cx, e = .returned (.tuple #[.slice X (m + 1) cx, .int .i64 0]) ∧ Turns w w' Own.emp (Own.row 3 1 (.slice X (m + 1) cx) (m + 1) (iv (barsOf l es))) := by
  have d1 : decide (4096 < n) = false := by simp; omega
  have d2 : decide ((4096 : Int) < (n : Int)) = false := by simp; omega
  have d3 : decide (4096 < m) = false := by simp; omega
  have d4 : decide ((4096 : Int) < (m : Int)) = false := by simp; omega
  have HS := Lib.hid hs
  have HSL := Lib.hid hsl
  have HL := Lib.hid hl
  have HLL := Lib.hid hll
  have HI := Lib.hid hinc
  obtain ⟨ij, hij, hzaj, hzbj, hzcj⟩ := info_parts Try.info3
  clear hs hsl hl hll hinc
  go_enter Try.func23, Try.ntmps23
  go_wp2_with fail
  clear d1 d2 d3 d4
  go_loopw [6] (fun x6 wr => ∃ j k : Nat, x6 = .int .i64 k ∧ k = j + 1 ∧ ∃ q, w.drewN q = wr) (fun x6 _ => m + 1 - (intOf x6).toNat)
  case atStart => exact ⟨0, 1, rfl, rfl, 0, rfl⟩
  case round =>
    obtain ⟨j, k, rfl, hk, q, rfl⟩ := hrel
    have HK := Lib.hid hk
    by_cases hjm : k < m
    · have hne : es ≠ [] := fun h => by have := HL.out; subst h; simp at this; omega
      obtain ⟨b, off, rfl, hb, hc⟩ := HS.out.cells hne
      have hj2 : j < m := by omega
      have hd : decide ((k : Int) < (m : Int)) = true := by simp; omega
      have hd' : decide (k < m) = true := by simp; omega
      have c0 : (w.drewN q).cell? ⟨b, off + j, none⟩ = some (.int .i64 (es.getD j 0)) := hc j (by rw [HL.out]; omega)
      have c1 : (w.drewN q).cell? ⟨b, off + k, none⟩ = some (.int .i64 (es.getD k 0)) := hc k (by rw [HL.out]; omega)
      have c2 : w.cell? ⟨b, off + j, none⟩ = some (.int .i64 (es.getD j 0)) := hc j (by rw [HL.out]; omega)
      have c3 : w.cell? ⟨b, off + k, none⟩ = some (.int .i64 (es.getD k 0)) := hc k (by rw [HL.out]; omega)
      have hw : IntKind.i64.wrap ((k : Int) - 1) = (j : Int) := by rw [IntWalk.i64_in _ (by omega)]; omega
      have hlt : es.getD j 0 < es.getD k 0 := by rw [HK.out]; exact HI.out j (by rw [HL.out]; omega)
      clear hc hne
      obtain ⟨v, hv⟩ : ∃ v, es.getD k 0 = v := ⟨_, rfl⟩
      obtain ⟨u, hu⟩ : ∃ u, es.getD j 0 = u := ⟨_, rfl⟩
      rw [hu] at c0 c2
      rw [hv] at c1 c3
      rw [hu, hv] at hlt
      clear hu hv
      have q1 : decide (v ≤ u) = false := by simp; omega
      clear hlt hk
      go_wp2_with fail
      go_quiet (fail)
      clear hw
      go_wp2_with fail
      go_roundw
      case rel => exact ⟨k, k + 1, by simp, rfl, _, rfl⟩
      case measure => simp [intOf]; omega
    · have hd : decide ((k : Int) < (m : Int)) = false := by simp; omega
      have hd' : decide (k < m) = false := by simp; omega
      clear hk hjm
      go_wp2_with fail
      obtain ⟨M, hM⟩ : ∃ M, M = m + 1 := ⟨_, rfl⟩
      have HM := Lib.hid hM
      have hMb : M ≤ 4097 := by omega
      have HR0 : Hid (Turns w ((w.drewN q).alloc (.cells #[] 3)) Own.emp (Own.row 3 1 (.slice (some ⟨w.heap.size, 0, none⟩) 0 0) 0 (iv ((barsOf l es).take 0)))) := Lib.hid ((Turns.of_kept (O := Own.emp) trivial ((Chg.refl _ _).drewN q)).trans (Turns.row_lit (w.drewN q) Own.emp #[] 3 1 0 (by simp [maxLen]) rfl))
      have HBL := Lib.hid (show (barsOf l es).length = M by rw [barsOf_len, HL.out]; omega)
      go_loopw [7, 8] (fun x7 x8 wr => ∃ (i : Nat) (X : Option Addr) (cx : Nat), x8 = .int .i64 i ∧ i ≤ M ∧ x7 = .slice X i cx ∧ Turns w wr Own.emp (Own.row 3 1 (.slice X i cx) i (iv ((barsOf l es).take i)))) (fun _ x8 _ => M - (intOf x8).toNat)
      case atStart => exact ⟨0, _, _, rfl, Nat.zero_le _, rfl, HR0.out⟩
      case round =>
        obtain ⟨i, X, cx, rfl, hiM, rfl, ht⟩ := hrel
        have HT := Lib.hid ht
        clear ht hM
        by_cases him : i ≤ m
        · have hd1 : decide ((i : Int) ≤ (m : Int)) = true := by simp; omega
          have hd1' : decide (i ≤ m) = true := by simp; omega
          have hst : iv ((barsOf l es).take (i + 1)) = iv ((barsOf l es).take i) ++ [.int .i64 ((l.countP (fun x => bucket es x == i) : Nat) : Int)] := by
            rw [List.take_add_one, barsOf_get l es i (by rw [HL.out]; omega), iv_app]
            rfl
          have HST := Lib.hid hst
          clear hst
          go_wp2_with fail
          go_loopw [9, 10] (fun x9 x10 wr' => ∃ (k v : Nat), x10 = .int .i64 k ∧ k ≤ n ∧ x9 = .int .i64 v ∧ v ≤ k ∧ v = (l.take k).countP (fun x => bucket es x == i) ∧ ∃ q, wr.drewN q = wr') (fun _ x10 _ => n - (intOf x10).toNat)
          case atStart => exact ⟨0, 0, rfl, Nat.zero_le _, rfl, Nat.le_refl _, rfl, 0, rfl⟩
          case round =>
            obtain ⟨k, v, rfl, hkn, rfl, hvk, hv, q, rfl⟩ := hrel
            have HV := Lib.hid hv
            clear hv
            by_cases hlt : k < n
            · have hd2 : decide ((k : Int) < (n : Int)) = true := by simp; omega
              have hd2' : decide (k < n) = true := by simp; omega
              have hkl : k < l.length := by rw [HLL.out]; exact hlt
              obtain ⟨b, off, rfl, hb, hc⟩ := (HSL.out.keep HT.out.chg).cells (fun h => by subst h; simp at hkl)
              have c0 := hc k hkl
              have htk : l.take (k + 1) = l.take k ++ [l[k]] := by rw [List.take_add_one, List.getElem?_eq_getElem hkl]; rfl
              obtain ⟨x, hx⟩ : ∃ x, l[k] = x := ⟨_, rfl⟩
              have hgx : l.getD k 0 = x := by rw [← hx]; simp [List.getD, hkl]
              rw [hgx] at c0
              rw [hx] at htk
              have hcp : (l.take (k + 1)).countP (fun x => bucket es x == i) = (l.take k).countP (fun x => bucket es x == i) + (if bucket es x = i then 1 else 0) := by rw [htk, List.countP_append]; simp [List.countP_cons]
              have HCP := Lib.hid hcp
              have HBI := Lib.hid (bucket_iff HI.out.sorted x i (by rw [HL.out]; omega))
              have c0' : (wr.drewN q).cell? ⟨b, off + k, none⟩ = some (.int .i64 x) := c0
              clear hc hx hgx htk hcp
              by_cases hi0 : i = 0
              · have q1 : ((i : Int) == 0) = true := by simp; omega
                have A1 : i = 0 ∨ es.getD (i - 1) 0 ≤ x := Or.inl hi0
                have HA1 := Lib.hid A1
                clear hi0 A1
                by_cases hie : i = m
                · have q3 : ((i : Int) == (m : Int)) = true := by simp; omega
                  have q3' : decide ((i : Int) = (m : Int)) = true := by simp; omega
                  have q3'' : (i == m) = true := by simpa using hie
                  have A2 : i = es.length ∨ x < es.getD i 0 := Or.inl (by rw [HL.out]; exact hie)
                  clear hie
                  have hb : bucket es x = i := HBI.out.2 ⟨HA1.out, A2⟩
                  go_wp2_with fail
                  go_quiet (fail)
                  go_wp2_with fail
                  go_roundw
                  case rel => exact ⟨k + 1, v + 1, by simp, by omega, by simp, by omega, by rw [HCP.out, if_pos hb, HV.out], _, rfl⟩
                  case measure => simp [intOf]; omega
                · have q3 : ((i : Int) == (m : Int)) = false := by simp; omega
                  have q3' : decide ((i : Int) = (m : Int)) = false := by simp; omega
                  have q3'' : (i == m) = false := by simpa using hie
                  have him2 : i < m := by omega
                  have hne : es ≠ [] := fun h => by have := HL.out; subst h; simp at this; omega
                  obtain ⟨eb, eo, rfl, heb, hec⟩ := (HS.out.keep HT.out.chg).cells hne
                  have k0 := hec i (by rw [HL.out]; omega)
                  obtain ⟨y, hy⟩ : ∃ y, es.getD i 0 = y := ⟨_, rfl⟩
                  rw [hy] at k0
                  have k0' : (wr.drewN q).cell? ⟨eb, eo + i, none⟩ = some (.int .i64 y) := k0
                  have HY := Lib.hid hy
                  clear hec hy hne
                  by_cases hxy : x < y
                  · have q4 : decide (x < y) = true := by simpa using hxy
                    have A2 : i = es.length ∨ x < es.getD i 0 := Or.inr (by rw [HY.out]; exact hxy)
                    clear hie
                    have hb : bucket es x = i := HBI.out.2 ⟨HA1.out, A2⟩
                    go_wp2_with fail
                    go_quiet (fail)
                    go_wp2_with fail
                    go_roundw
                    case rel => exact ⟨k + 1, v + 1, by simp, by omega, by simp, by omega, by rw [HCP.out, if_pos hb, HV.out], _, rfl⟩
                    case measure => simp [intOf]; omega
                  · have q4 : decide (x < y) = false := by simpa using hxy
                    have NO : ¬ ((i = 0 ∨ es.getD (i - 1) 0 ≤ x) ∧ (i = es.length ∨ x < es.getD i 0)) := fun h => by
                      rcases h.2 with h | h
                      · rw [HL.out] at h; exact hie h
                      · rw [HY.out] at h; exact hxy h
                    have HNO := Lib.hid NO
                    clear NO hie
                    have hb : ¬ bucket es x = i := fun h => HNO.out (HBI.out.1 h)
                    go_wp2_with fail
                    go_quiet (fail)
                    go_wp2_with fail
                    go_roundw
                    case rel => exact ⟨k + 1, v, by simp, by omega, rfl, by omega, by rw [HCP.out, if_neg hb, HV.out]; rfl, _, rfl⟩
                    case measure => simp [intOf]; omega
              · have q1 : ((i : Int) == 0) = false := by simp; omega
                have hne0 : es ≠ [] := fun h => by have := HL.out; subst h; simp at this; omega
                obtain ⟨fb, fo, rfl, hfb, hfc⟩ := (HS.out.keep HT.out.chg).cells hne0
                obtain ⟨j, hj⟩ : ∃ j, j + 1 = i := ⟨i - 1, by omega⟩
                have j0 := hfc j (by rw [HL.out]; omega)
                have hw : IntKind.i64.wrap ((i : Int) - 1) = (j : Int) := by rw [IntWalk.i64_in _ (by omega)]; omega
                obtain ⟨u, hu⟩ : ∃ u, es.getD j 0 = u := ⟨_, rfl⟩
                rw [hu] at j0
                have j0' : (wr.drewN q).cell? ⟨fb, fo + j, none⟩ = some (.int .i64 u) := j0
                have HU : Hid (es.getD (i - 1) 0 = u) := by rw [show i - 1 = j by omega]; exact Lib.hid hu
                have hjm : j < m := by omega
                have HI0 := Lib.hid hi0
                have HFC := Lib.hid hfc
                clear hfc hu hne0
                by_cases hux : u ≤ x
                · have q2 : decide (u ≤ x) = true := by simpa using hux
                  have HA1 : Hid (i = 0 ∨ es.getD (i - 1) 0 ≤ x) := Lib.hid (Or.inr (by rw [HU.out]; exact hux))
                  clear hi0 hj
                  by_cases hie : i = m
                  · have q3 : ((i : Int) == (m : Int)) = true := by simp; omega
                    have q3' : decide ((i : Int) = (m : Int)) = true := by simp; omega
                    have q3'' : (i == m) = true := by simpa using hie
                    have A2 : i = es.length ∨ x < es.getD i 0 := Or.inl (by rw [HL.out]; exact hie)
                    clear hie
                    have hb : bucket es x = i := HBI.out.2 ⟨HA1.out, A2⟩
                    go_wp2_with fail
                    go_quiet (fail)
                    go_wp2_with fail
                    go_roundw
                    case rel => exact ⟨k + 1, v + 1, by simp, by omega, by simp, by omega, by rw [HCP.out, if_pos hb, HV.out], _, rfl⟩
                    case measure => simp [intOf]; omega
                  · have q3 : ((i : Int) == (m : Int)) = false := by simp; omega
                    have q3' : decide ((i : Int) = (m : Int)) = false := by simp; omega
                    have q3'' : (i == m) = false := by simpa using hie
                    have him2 : i < m := by omega
                    have k0 := HFC.out i (by rw [HL.out]; omega)
                    obtain ⟨y, hy⟩ : ∃ y, es.getD i 0 = y := ⟨_, rfl⟩
                    rw [hy] at k0
                    have k0' : (wr.drewN q).cell? ⟨fb, fo + i, none⟩ = some (.int .i64 y) := k0
                    have HY := Lib.hid hy
                    clear hy
                    by_cases hxy : x < y
                    · have q4 : decide (x < y) = true := by simpa using hxy
                      have A2 : i = es.length ∨ x < es.getD i 0 := Or.inr (by rw [HY.out]; exact hxy)
                      clear hie
                      have hb : bucket es x = i := HBI.out.2 ⟨HA1.out, A2⟩
                      go_wp2_with fail
                      go_quiet (fail)
                      go_wp2_with fail
                      go_roundw
                      case rel => exact ⟨k + 1, v + 1, by simp, by omega, by simp, by omega, by rw [HCP.out, if_pos hb, HV.out], _, rfl⟩
                      case measure => simp [intOf]; omega
                    · have q4 : decide (x < y) = false := by simpa using hxy
                      have NO : ¬ ((i = 0 ∨ es.getD (i - 1) 0 ≤ x) ∧ (i = es.length ∨ x < es.getD i 0)) := fun h => by
                        rcases h.2 with h | h
                        · rw [HL.out] at h; exact hie h
                        · rw [HY.out] at h; exact hxy h
                      have HNO := Lib.hid NO
                      clear NO hie
                      have hb : ¬ bucket es x = i := fun h => HNO.out (HBI.out.1 h)
                      go_wp2_with fail
                      go_quiet (fail)
                      go_wp2_with fail
                      go_roundw
                      case rel => exact ⟨k + 1, v, by simp, by omega, rfl, by omega, by rw [HCP.out, if_neg hb, HV.out]; rfl, _, rfl⟩
                      case measure => simp [intOf]; omega
                · have q2 : decide (u ≤ x) = false := by simpa using hux
                  have NO : ¬ ((i = 0 ∨ es.getD (i - 1) 0 ≤ x) ∧ (i = es.length ∨ x < es.getD i 0)) := fun h => by
                    rcases h.1 with h | h
                    · exact hi0 h
                    · rw [HU.out] at h; exact hux h
                  have HNO := Lib.hid NO
                  clear NO hi0 hj
                  have hb : ¬ bucket es x = i := fun h => HNO.out (HBI.out.1 h)
                  go_wp2_with fail
                  go_quiet (fail)
                  go_wp2_with fail
                  go_roundw
                  case rel => exact ⟨k + 1, v, by simp, by omega, rfl, by omega, by rw [HCP.out, if_neg hb, HV.out]; rfl, _, rfl⟩
                  case measure => simp [intOf]; omega
            · have hd2 : decide ((k : Int) < (n : Int)) = false := by simp; omega
              have hd2' : decide (k < n) = false := by simp; omega
              have hv' : v = l.countP (fun x => bucket es x == i) := by
                rw [HV.out, List.take_of_length_le (by have := HLL.out; omega)]
              rw [← hv'] at HST
              have HR := Lib.hid (HT.out.drewN q)
              clear hv'
              go_wp2_with (first
                | (at_builtin; refine wpList_app1 _ rfl (.tmp 81) (.tmp 83) 22 rfl 3 ij (.int .i64 0) 1 8 Try.underlying22 hij hzaj hzbj hzcj rfl (by decide) (.slice X i cx) i (iv ((barsOf l es).take i)) rfl _ _ _ rfl (by first | rfl | simp) HR.out.now rfl (by simp [Value.oneCell']) (by simp only [maxLen]; omega) (by omega) ?_; intro g4 c4 w4 hc4 ht4; have HT4 := Lib.hid ht4; clear ht4))
              go_roundw
              case rel =>
                refine ⟨i + 1, _, _, by simp, by have := HM.out; omega, rfl, ?_⟩
                rw [HST.out]
                exact HR.out.trans HT4.out
              case measure => have := HM.out; simp [intOf]; omega
        · have hd1 : decide ((i : Int) ≤ (m : Int)) = false := by simp; omega
          have hd1' : decide (i ≤ m) = false := by simp; omega
          have him' : i = m + 1 := by have := HM.out; omega
          go_wp2_with fail
          go_ret2
          have h := HT.out
          rw [List.take_of_length_le (by have := HBL.out; have := HM.out; omega)] at h
          subst him'
          exact ⟨X, cx, rfl, h⟩
end Go.Proofs.Ytgoimoaeeiobnaa.Ga
