/- The document's At, Newest, From. -/
import Derived.Test.YtpaaghbmlenlfaaOlSj
namespace Go.Proofs.Ytpaaghbmlenlfaa.Ol
open Go.Hp.M7
open Go.RowKit Go.Hp
attribute [local go_sem] min2_lean min_two max2_lean max_two
set_option linter.unusedSimpArgs false
set_option linter.unusedVariables false
set_option maxRecDepth 100000
set_option maxHeartbeats 1000000 in
theorem qAt (g m : Nat) (v : Value) (A : Ab) (op : Int) (w : World) (h : (qO g m v A).holds w) (hok : A.Ok m) : Calls Try.prog 50 #[.pointer (some ⟨g, 0, none⟩), .int .i64 op] w fun e w' => e = .returned (.tuple #[.agg (aAt A op).1.cells.toArray, .bool (aAt A op).2]) ∧ Chg (fun _ => False) w w' := by
  have HO := Lib.hid (fun W h => qhas g m v A op W h hok)
  have H := Lib.hid h
  have l3 := hok.b0
  have l4 := hok.b1
  have l2 : A.2.length ≤ 64 := by have := hok.len; have := hok.m64; omega
  obtain ⟨Av, cv, rfl⟩ := rO_slice h
  have HA : ∀ o, Hid ((qO g m (.slice Av A.2.length cv) A).holds (w.alloc o)) := fun o => Own.chg h ((Chg.refl (fun _ => False) _).alloc o) (fun _ _ h => h)
  clear h
  by_cases hh : hasA A op
  · have d1 : decide (hasA A op) = true := by simpa using hh
    have hh' := hh
    unfold hasA at hh'
    obtain ⟨k, hk⟩ : ∃ k : Nat, op = A.1 + k + 1 := ⟨(op - A.1 - 1).toNat, by omega⟩
    have hkl : k < A.2.length := by omega
    obtain ⟨e, he⟩ : ∃ e, A.2[k]? = some e := ⟨_, List.getElem?_eq_getElem hkl⟩
    rw [aAt_yes hh hk he]
    have HE := Lib.hid he
    have hw1 : IntKind.i64.wrap (op - A.1) = op - A.1 := IntWalk.i64_in _ (by omega)
    have hw2 : IntKind.i64.wrap (op - A.1 - 1) = (k : Int) := by rw [show op - A.1 - 1 = (k : Int) by omega]; exact IntWalk.i64_in _ (by omega)
    have hk0 : (0 : Int) ≤ (k : Int) := Int.natCast_nonneg _
    have hk1 : (k : Int) < (A.2.length : Int) := by omega
    obtain ⟨n, hn⟩ : ∃ n, A.2.length = n := ⟨_, rfl⟩
    have HN := Lib.hid hn
    rw [hn] at hk1 HA H HO
    clear hh hh' he hkl hk hn
    go_enter Try.func50, Try.ntmps50
    go_wp2_with (first
      | (go_at_call 62; (with_reducible refine (HO.out _ (by exact (HA _).out)).mono ?_); rintro r w1 ⟨rfl, hc⟩; rw [d1]))
    have HQ := Lib.hid (Own.chg (HA (.cells #[.int .i64 0, .int .i64 0, .int .i64 0, .string { data := #[] }, .string { data := #[] }, .int .i64 0, .int .i64 0] 51)).out hc (fun _ _ h => h))
    have HB : Hid (Blk w1 w.heap.size #[.int .i64 0, .int .i64 0, .int .i64 0, .string { data := #[] }, .string { data := #[] }, .int .i64 0, .int .i64 0] 51) := (Blk.new w _ _).chg hc (fun h => h)
    have HG := Lib.hid (((Chg.refl (fun _ => False) w).alloc (.cells #[.int .i64 0, .int .i64 0, .int .i64 0, .string { data := #[] }, .string { data := #[] }, .int .i64 0, .int .i64 0] 51)).trans hc)
    clear hc
    obtain ⟨-, c1, c2⟩ := rO_cells HQ.out
    have hrow := HQ.out.2.1
    rw [HN.out] at hrow
    obtain ⟨vb, voff, rfl, hvb, -⟩ := EnS.of_row (c := cv) (l := A.2) (by rw [HN.out]; have h := H.out.2.1; rw [HN.out] at h; exact h) k e HE.out
    obtain ⟨b', o', e', -, hx⟩ := EnS.of_row (c := cv) (l := A.2) (by rw [HN.out]; exact hrow) k e HE.out
    cases e'
    have hgl : g < w.heap.size := Blk.lt H.out.1
    have n1 : w.heap.size ≠ g := by omega
    have n2 : w.heap.size ≠ vb := by omega
    have n3 : g ≠ w.heap.size := by omega
    have n4 : vb ≠ w.heap.size := by omega
    obtain ⟨ec, en, ek, em, et, eu, eo⟩ := e
    have g0 : w1.cell? ⟨vb, voff + k * 7, none⟩ = some (.int .i64 ec) := hx 0 _ rfl
    have g1 : w1.cell? ⟨vb, voff + k * 7 + 1, none⟩ = some (.int .i64 en) := hx 1 _ rfl
    have g2 : w1.cell? ⟨vb, voff + k * 7 + 2, none⟩ = some (.int .i64 ek) := hx 2 _ rfl
    have g3 : w1.cell? ⟨vb, voff + k * 7 + 3, none⟩ = some (.string em) := hx 3 _ rfl
    have g4 : w1.cell? ⟨vb, voff + k * 7 + 4, none⟩ = some (.string et) := hx 4 _ rfl
    have g5 : w1.cell? ⟨vb, voff + k * 7 + 5, none⟩ = some (.int .i64 eu) := hx 5 _ rfl
    have g6 : w1.cell? ⟨vb, voff + k * 7 + 6, none⟩ = some (.int .i64 eo) := hx 6 _ rfl
    have y0 : w1.frozen? ⟨w.heap.size, 0, none⟩ = false := HB.out.frozen 0
    have y1 : w1.frozen? ⟨w.heap.size, 1, none⟩ = false := HB.out.frozen 1
    have y2 : w1.frozen? ⟨w.heap.size, 2, none⟩ = false := HB.out.frozen 2
    have y3 : w1.frozen? ⟨w.heap.size, 3, none⟩ = false := HB.out.frozen 3
    have y4 : w1.frozen? ⟨w.heap.size, 4, none⟩ = false := HB.out.frozen 4
    have y5 : w1.frozen? ⟨w.heap.size, 5, none⟩ = false := HB.out.frozen 5
    have y6 : w1.frozen? ⟨w.heap.size, 6, none⟩ = false := HB.out.frozen 6
    have z0 : w1.cell? ⟨w.heap.size, 0, none⟩ = some (.int .i64 0) := HB.out.cell 0
    have z1 : w1.cell? ⟨w.heap.size, 1, none⟩ = some (.int .i64 0) := HB.out.cell 1
    have z2 : w1.cell? ⟨w.heap.size, 2, none⟩ = some (.int .i64 0) := HB.out.cell 2
    have z3 : w1.cell? ⟨w.heap.size, 3, none⟩ = some (.string { data := #[] }) := HB.out.cell 3
    have z4 : w1.cell? ⟨w.heap.size, 4, none⟩ = some (.string { data := #[] }) := HB.out.cell 4
    have z5 : w1.cell? ⟨w.heap.size, 5, none⟩ = some (.int .i64 0) := HB.out.cell 5
    have z6 : w1.cell? ⟨w.heap.size, 6, none⟩ = some (.int .i64 0) := HB.out.cell 6
    clear hrow hx hvb
    go_region_held3 (fun w' => w'.cell? ⟨g, 1, none⟩ = some (.int .i64 A.1) ∧ w'.cell? ⟨g, 2, none⟩ = some (.slice (some ⟨vb, voff, none⟩) n cv) ∧ w'.cell? ⟨vb, voff + k * 7, none⟩ = some (.int .i64 ec) ∧ w'.cell? ⟨vb, voff + k * 7 + 1, none⟩ = some (.int .i64 en) ∧ w'.cell? ⟨vb, voff + k * 7 + 2, none⟩ = some (.int .i64 ek) ∧ w'.cell? ⟨vb, voff + k * 7 + 3, none⟩ = some (.string em) ∧ w'.cell? ⟨vb, voff + k * 7 + 4, none⟩ = some (.string et) ∧ w'.cell? ⟨vb, voff + k * 7 + 5, none⟩ = some (.int .i64 eu) ∧ w'.cell? ⟨vb, voff + k * 7 + 6, none⟩ = some (.int .i64 eo)) (go_keep) (fail)
    go_wp2_with fail
    have HW := Lib.hid HG.out
    clear hw1 hw2 HO H HA HQ HE HG HB c1 c2 g0 g1 g2 g3 g4 g5 g6
    refine bodyPost_ret (v := .tuple #[.agg (En.mk ec en ek em et eu eo).cells.toArray, .bool true]) (by simp [results, Try.results50, go_sem, En.cells, z0, z1, z2, z3, z4, z5, z6]) rfl ⟨rfl, ?_⟩
    repeat (first | (with_reducible exact HW.out) | (with_reducible refine Chg.drew ?_) | (with_reducible refine Chg.set ?_ (Or.inl (by simp)) _))
  · have d1 : decide (hasA A op) = false := by simpa using hh
    have e : aAt A op = (En.zero, false) := by unfold aAt; rw [if_neg hh]
    rw [e]
    clear hh e
    go_enter Try.func50, Try.ntmps50
    go_wp2_with (first
      | (go_at_call 62; (with_reducible refine (HO.out _ (by exact (HA _).out)).mono ?_); rintro r w1 ⟨rfl, hc⟩; rw [d1]; have HB : Hid (Blk w1 w.heap.size #[.int .i64 0, .int .i64 0, .int .i64 0, .string { data := #[] }, .string { data := #[] }, .int .i64 0, .int .i64 0] 51) := (Blk.new w _ _).chg hc (fun h => h); have y0 : w1.frozen? ⟨w.heap.size, 0, none⟩ = false := HB.out.frozen 0; have y1 : w1.frozen? ⟨w.heap.size, 1, none⟩ = false := HB.out.frozen 1; have y2 : w1.frozen? ⟨w.heap.size, 2, none⟩ = false := HB.out.frozen 2; have y3 : w1.frozen? ⟨w.heap.size, 3, none⟩ = false := HB.out.frozen 3; have y4 : w1.frozen? ⟨w.heap.size, 4, none⟩ = false := HB.out.frozen 4; have y5 : w1.frozen? ⟨w.heap.size, 5, none⟩ = false := HB.out.frozen 5; have y6 : w1.frozen? ⟨w.heap.size, 6, none⟩ = false := HB.out.frozen 6; have z0 : w1.cell? ⟨w.heap.size, 0, none⟩ = some (.int .i64 0) := HB.out.cell 0; have z1 : w1.cell? ⟨w.heap.size, 1, none⟩ = some (.int .i64 0) := HB.out.cell 1; have z2 : w1.cell? ⟨w.heap.size, 2, none⟩ = some (.int .i64 0) := HB.out.cell 2; have z3 : w1.cell? ⟨w.heap.size, 3, none⟩ = some (.string { data := #[] }) := HB.out.cell 3; have z4 : w1.cell? ⟨w.heap.size, 4, none⟩ = some (.string { data := #[] }) := HB.out.cell 4; have z5 : w1.cell? ⟨w.heap.size, 5, none⟩ = some (.int .i64 0) := HB.out.cell 5; have z6 : w1.cell? ⟨w.heap.size, 6, none⟩ = some (.int .i64 0) := HB.out.cell 6; have HG := Lib.hid (((Chg.refl (fun _ => False) w).alloc (.cells #[.int .i64 0, .int .i64 0, .int .i64 0, .string { data := #[] }, .string { data := #[] }, .int .i64 0, .int .i64 0] 51)).trans hc); clear hc))
    clear HO H HA HB
    refine bodyPost_ret (v := .tuple #[.agg En.zero.cells.toArray, .bool false]) (by simp [results, Try.results50, go_sem, En.cells, En.zero, *]; try rfl) rfl ⟨rfl, ?_⟩
    repeat (first | (with_reducible exact HG.out) | (with_reducible refine Chg.set ?_ (Or.inl (by simp)) _))
set_option maxHeartbeats 1000000 in
theorem qNewest (g m : Nat) (v : Value) (A : Ab) (c : Int) (w : World) (h : (qO g m v A).holds w) (hl : A.2.length ≤ 64) : Calls Try.prog 57 #[.pointer (some ⟨g, 0, none⟩), .int .i64 c] w fun e w' => e = .returned (.int .i64 (nwL c A.2)) ∧ Chg (fun _ => False) w w' := by
  obtain ⟨Av, cv, rfl⟩ := rO_slice h
  obtain ⟨-, -, c2⟩ := rO_cells h
  have HS := Lib.hid (EnS.of_row (c := cv) (l := A.2) h.2.1)
  obtain ⟨n, hn⟩ : ∃ n, A.2.length = n := ⟨_, rfl⟩
  have HN := Lib.hid hn
  rw [hn] at c2 hl
  clear h hn
  go_enter Try.func57, Try.ntmps57
  go_wp2_with fail
  go_loopw [5, 13] (fun x5 x13 wr => ∃ i : Nat, x13 = .int .i64 i ∧ i ≤ n ∧ x5 = .int .i64 (nwL c (A.2.take i)) ∧ Chg (fun _ => False) w wr) (fun _ x13 _ => n - (intOf x13).toNat)
  case atStart => exact ⟨0, rfl, Nat.zero_le _, by simp [nwL], Chg.refl _ _⟩
  case round =>
    obtain ⟨i, rfl, hi, rfl, hc⟩ := hrel
    have HC := Lib.hid hc
    by_cases hlt : i < n
    · have hd : decide ((i : Int) < (n : Int)) = true := by simp; omega
      have hd' : decide (i < n) = true := by simp; omega
      have hi0 : (0 : Int) ≤ (i : Int) := Int.natCast_nonneg _
      have hi1 : (i : Int) < (n : Int) := by omega
      obtain ⟨e, he⟩ : ∃ e, A.2[i]? = some e := ⟨_, List.getElem?_eq_getElem (by rw [HN.out]; exact hlt)⟩
      have htk : A.2.take (i + 1) = A.2.take i ++ [e] := by rw [List.take_add_one, he]; rfl
      obtain ⟨vb, voff, rfl, hvb, hx⟩ := (HS.out.chg hc (fun _ _ _ h => h)) i e he
      have HTK : Hid (nwL c (A.2.take (i + 1)) = nwS c (nwL c (A.2.take i)) e) := Lib.hid (by rw [htk, nwL_next])
      obtain ⟨ec, en, ek, em, et, eu, eo⟩ := e
      have g0 : wr.cell? ⟨vb, voff + i * 7, none⟩ = some (.int .i64 ec) := hx 0 _ rfl
      have g1 : wr.cell? ⟨vb, voff + i * 7 + 1, none⟩ = some (.int .i64 en) := hx 1 _ rfl
      have g2 : wr.cell? ⟨vb, voff + i * 7 + 2, none⟩ = some (.int .i64 ek) := hx 2 _ rfl
      have g3 : wr.cell? ⟨vb, voff + i * 7 + 3, none⟩ = some (.string em) := hx 3 _ rfl
      have g4 : wr.cell? ⟨vb, voff + i * 7 + 4, none⟩ = some (.string et) := hx 4 _ rfl
      have g5 : wr.cell? ⟨vb, voff + i * 7 + 5, none⟩ = some (.int .i64 eu) := hx 5 _ rfl
      have g6 : wr.cell? ⟨vb, voff + i * 7 + 6, none⟩ = some (.int .i64 eo) := hx 6 _ rfl
      clear hx htk he hvb
      generalize nwL c (A.2.take i) = nn at *
      by_cases c1 : ec = c
      · have d1 : (ec == c) = true := by simpa using c1
        have HC1 := Lib.hid c1
        clear c1
        by_cases c2 : nn < en
        · have d2 : decide (nn < en) = true := by simpa using c2
          have HC2 := Lib.hid c2
          clear c2
          go_wp2_with fail
          go_roundw
          case rel => exact ⟨i + 1, by simp, by omega, by rw [HTK.out, nwS, if_pos HC1.out, show (max nn en) = en from Int.max_eq_right (by have := HC2.out; omega)], HC.out.alloc _⟩
          case measure => simp [intOf]; omega
        · have d2 : decide (nn < en) = false := by simpa using c2
          have HC2 := Lib.hid c2
          clear c2
          go_wp2_with fail
          go_roundw
          case rel => exact ⟨i + 1, by simp, by omega, by rw [HTK.out, nwS, if_pos HC1.out, show (max nn en) = nn from Int.max_eq_left (by have := HC2.out; omega)], HC.out.alloc _⟩
          case measure => simp [intOf]; omega
      · have d1 : (ec == c) = false := by simpa using c1
        have HC1 := Lib.hid c1
        clear c1
        go_wp2_with fail
        go_roundw
        case rel => exact ⟨i + 1, by simp, by omega, by rw [HTK.out, nwS, if_neg HC1.out], HC.out.alloc _⟩
        case measure => simp [intOf]; omega
    · have hd : decide ((i : Int) < (n : Int)) = false := by simp; omega
      have hd' : decide (i < n) = false := by simp; omega
      have hin : A.2.take i = A.2 := List.take_of_length_le (by rw [HN.out]; omega)
      rw [hin]
      go_wp2_with fail
      go_ret
      exact ⟨rfl, hc⟩
end Go.Proofs.Ytpaaghbmlenlfaa.Ol
