/- Backoffs of the program and of the document: contracts of their functions. -/
import Derived.Test.YtpaaghbmlenlfaaProg
import Derived.Test.YtpaaghbmlenlfaaHp
import Derived.Test.YtpaaghbmlenlfaaSp
import Derived.Test.YtpaaghbmlenlfaaTmGrows
import Derived.WalkKit
import Derived.ProofKit
import Derived.BigQuiet
import Derived.Deep.QuietTactic
import Derived.Deep.RegionWith
import Derived.StillTailTactics
import Derived.Lib.Hide
namespace Go.Proofs.Ytpaaghbmlenlfaa.Tm
open Go.RowKit Go.Hp
attribute [local go_sem] min2_lean min_two max2_lean max_two

theorem rnew_any (a b : Int) (w : World) (h : 1 ≤ a) (h2 : a ≤ b) (h3 : b ≤ 1024) :
    Calls Try.prog 16 #[.int .i64 a, .int .i64 b] w fun e w' => e = .returned (.tuple #[.pointer (some ⟨w.heap.size, 0, none⟩), .int .i64 0]) ∧ w.alloc (.cells #[.int .i64 a, .int .i64 b, .int .i64 a] 39) = w' := by
  go_enter Try.func16, Try.ntmps16
  go_wp2
  go_ret2
  exact ⟨rfl, rfl⟩
theorem news_no (a b : Int) (w : World) (h : a < 1 ∨ b < a ∨ 1024 < b) :
    ∃ k : Int, (k != 0) = true ∧ Calls Try.prog 12 #[.int .i64 a, .int .i64 b] w (fun e w' => e = .returned (.tuple #[.pointer none, .int .i64 k]) ∧ w = w') ∧
      Calls Try.prog 16 #[.int .i64 a, .int .i64 b] w (fun e w' => e = .returned (.tuple #[.pointer none, .int .i64 k]) ∧ w = w') := by
  by_cases h1 : a < 1
  · refine ⟨30, by decide, ?_, ?_⟩
    · go_enter Try.func12, Try.ntmps12
      go_wp2
      go_ret2
      exact ⟨rfl, rfl⟩
    · go_enter Try.func16, Try.ntmps16
      go_wp2
      go_ret2
      exact ⟨rfl, rfl⟩
  · by_cases h2 : 1024 < a
    · refine ⟨30, by decide, ?_, ?_⟩
      · go_enter Try.func12, Try.ntmps12
        go_wp2
        go_ret2
        exact ⟨rfl, rfl⟩
      · go_enter Try.func16, Try.ntmps16
        go_wp2
        go_ret2
        exact ⟨rfl, rfl⟩
    · by_cases h3 : 1024 < b
      · refine ⟨30, by decide, ?_, ?_⟩
        · go_enter Try.func12, Try.ntmps12
          go_wp2
          go_ret2
          exact ⟨rfl, rfl⟩
        · go_enter Try.func16, Try.ntmps16
          go_wp2
          go_ret2
          exact ⟨rfl, rfl⟩
      · have h4 : b < a := by omega
        clear h
        refine ⟨32, by decide, ?_, ?_⟩
        · go_enter Try.func12, Try.ntmps12
          go_wp2
          go_ret2
          exact ⟨rfl, rfl⟩
        · go_enter Try.func16, Try.ntmps16
          go_wp2
          go_ret2
          exact ⟨rfl, rfl⟩
theorem pnext_any (g : Nat) (b n m : Int) (w : World) (hb : Blk w g #[.int .i64 b, .int .i64 m, .int .i64 n] 82) (h0 : 0 ≤ n) (h1 : n ≤ 1024) :
    Calls Try.prog 14 #[.pointer (some ⟨g, 0, none⟩)] w fun e w' => e = .returned (.int .i64 n) ∧ SetBlk w w' g #[.int .i64 b, .int .i64 m, .int .i64 (min (2*n) m)] 82 :=
  (next_any g n m w (hb.cell 2) (hb.cell 1) (hb.frozen 2) h0 h1).mono fun _ _ ⟨he, hw⟩ => ⟨he, by rw [← hw]; exact SetBlk.of_set hb 2 _⟩
theorem preset_any (g : Nat) (b n m : Int) (w : World) (hb : Blk w g #[.int .i64 b, .int .i64 m, .int .i64 n] 82) :
    Calls Try.prog 15 #[.pointer (some ⟨g, 0, none⟩)] w fun e w' => e = .returned (.tuple #[]) ∧ SetBlk w w' g #[.int .i64 b, .int .i64 m, .int .i64 b] 82 :=
  (reset_any g b w _ (hb.cell 2) (hb.cell 0) (hb.frozen 2)).mono fun _ _ ⟨he, hw⟩ => ⟨he, by rw [← hw]; exact SetBlk.of_set hb 2 _⟩
theorem rnext_any (g : Nat) (b n m : Int) (w : World) (hb : Blk w g #[.int .i64 b, .int .i64 m, .int .i64 n] 39) (h0 : 0 ≤ n) (h1 : n ≤ 1024) :
    Calls Try.prog 18 #[.pointer (some ⟨g, 0, none⟩)] w fun e w' => e = .returned (.int .i64 n) ∧ SetBlk w w' g #[.int .i64 b, .int .i64 m, .int .i64 (min (2*n) m)] 39 := by
  have c0 := hb.cell 0
  have c1 := hb.cell 1
  have c2 := hb.cell 2
  have f2 := hb.frozen 2
  simp only [List.getElem?_toArray, List.getElem?_cons_succ, List.getElem?_cons_zero] at c0 c1 c2
  have Hb := Lib.hid hb
  clear hb
  by_cases hlt : m < 2 * n
  · have hd : decide (m < 2 * n) = true := by simp; omega
    have he : min (2 * n) m = m := by omega
    have HE := Lib.hid he
    clear he
    go_enter Try.func18, Try.ntmps18
    go_wp2
    go_quiet (fail)
    go_wp2
    go_ret
    exact ⟨rfl, by rw [HE.out]; exact ((SetBlk.of_set Hb.out 2 _).drewN _).then 2 _⟩
  · have hd : decide (m < 2 * n) = false := by simp; omega
    have he : min (2 * n) m = 2 * n := by omega
    have HE := Lib.hid he
    clear he
    go_enter Try.func18, Try.ntmps18
    go_wp2
    go_quiet (fail)
    go_wp2
    go_ret
    exact ⟨rfl, by rw [HE.out]; exact (SetBlk.of_set Hb.out 2 _).drewN _⟩
theorem pclone_any (g : Nat) (b n m : Int) (w : World) (hb : Blk w g #[.int .i64 b, .int .i64 m, .int .i64 n] 82) :
    Calls Try.prog 19 #[.pointer (some ⟨g, 0, none⟩)] w fun e w' => e = .returned (.pointer (some ⟨w.heap.size, 0, none⟩)) ∧ w.alloc (.cells #[.int .i64 b, .int .i64 m, .int .i64 n] 82) = w' := by
  have c0 := hb.cell 0
  have c1 := hb.cell 1
  have c2 := hb.cell 2
  have hl := hb.lt
  simp only [List.getElem?_toArray, List.getElem?_cons_succ, List.getElem?_cons_zero] at c0 c1 c2
  clear hb
  go_enter Try.func19, Try.ntmps19
  go_wp2
  go_ret
  exact ⟨rfl, rfl⟩
set_option maxRecDepth 100000 in
theorem rclone_any (g : Nat) (b n m : Int) (w : World) (hb : Blk w g #[.int .i64 b, .int .i64 m, .int .i64 n] 39) :
    Calls Try.prog 20 #[.pointer (some ⟨g, 0, none⟩)] w fun e w' => e = .returned (.pointer (some ⟨w.heap.size, 0, none⟩)) ∧ w.heap.size + 1 = w'.heap.size ∧ Turns w w' Own.emp (Own.blk w.heap.size #[.int .i64 b, .int .i64 m, .int .i64 n] 39) := by
  have c0 := hb.cell 0
  have c1 := hb.cell 1
  have c2 := hb.cell 2
  have hl := hb.lt
  simp only [List.getElem?_toArray, List.getElem?_cons_succ, List.getElem?_cons_zero] at c0 c1 c2
  clear hb
  go_enter Try.func20, Try.ntmps20
  go_wp2
  go_still_tail 13, (by kernel_rfl)
  change wpList _ _ _ _ _ w.drew
  go_wp2
  go_ret
  exact ⟨rfl, by simp, (Turns.blk_new w _ _).drew⟩
def am (i n : Int) : Int := if i.tmod n < 0 then i.tmod n + n else i.tmod n
theorem am_bd (i n : Int) (h : 1 ≤ n) : 0 ≤ am i n ∧ am i n < n := by
  have h1 := Int.tmod_lt_of_pos i (b := n) (by omega)
  have h2 := Int.lt_tmod_of_pos i (b := n) (by omega)
  unfold am
  split <;> omega
theorem among_any (i n : Int) (w : World) (h : 1 ≤ n) (h4 : n ≤ 1048576) :
    Calls Try.prog 17 #[.int .i64 i, .int .i64 n] w fun e w' => ∃ j : Int, 0 ≤ j ∧ j < n ∧ Hid (j = am i n) ∧ e = .returned (.int .i64 j) ∧ w = w' := by
  have hb := am_bd i n h
  have h1 := Int.tmod_lt_of_pos i (b := n) (by omega)
  have h2 := Int.lt_tmod_of_pos i (b := n) (by omega)
  refine Calls.mono (R := fun e w' => e = .returned (.int .i64 (am i n)) ∧ w = w') ?_ (fun e w' ⟨he, hw⟩ => ⟨_, hb.1, hb.2, rfl, he, hw⟩)
  have hn : (n == 0) = false := by simp; omega
  clear hb
  by_cases hneg : i.tmod n < 0
  · have hd : decide (i.tmod n < 0) = true := by simpa using hneg
    have HA := Lib.hid (show am i n = i.tmod n + n by unfold am; rw [if_pos hneg])
    go_enter Try.func17, Try.ntmps17
    go_wp2
    go_ret
    rw [HA.out]
    exact ⟨rfl, rfl⟩
  · have hd : decide (i.tmod n < 0) = false := by simp; omega
    have HA := Lib.hid (show am i n = i.tmod n by unfold am; rw [if_neg hneg])
    go_enter Try.func17, Try.ntmps17
    go_wp2
    go_ret
    rw [HA.out]
    exact ⟨rfl, rfl⟩
end Go.Proofs.Ytpaaghbmlenlfaa.Tm
