/- Package roll: a roll in memory; New, Last. -/
import Derived.Test.YtkpgdonpmfebaaaRlD
import Derived.Test.YtkpgdonpmfebaaaKq
namespace Go.Proofs.Ytkpgdonpmfebaaa.Rl
open Go.RowKit Go.Hp
attribute [local go_sem] min2_lean min_two max2_lean max_two
set_option linter.unusedSimpArgs false
set_option linter.unusedVariables false
set_option maxRecDepth 100000
def RwA.zero : RwA := ⟨0, 0, 0, 0, []⟩
/-- A roll: its block; of each client: is there a row, what it says, where its items lie. -/
structure RlS where
  g : Nat
  is : Nat → Bool
  row : Nat → RwA
  v : Nat → Value
def plc (b : Bool) (r : RwA) (v : Value) : List Value := [.bool b, .int .i64 r.num, .int .i64 r.at_, .int .i64 r.code, .int .i64 r.n, v]
def RlS.cells (s : RlS) : Array Value := (plc (s.is 0) (s.row 0) (s.v 0) ++ plc (s.is 1) (s.row 1) (s.v 1) ++ plc (s.is 2) (s.row 2) (s.v 2) ++ plc (s.is 3) (s.row 3) (s.v 3) ++ plc (s.is 4) (s.row 4) (s.v 4) ++ plc (s.is 5) (s.row 5) (s.v 5) ++ plc (s.is 6) (s.row 6) (s.v 6) ++ plc (s.is 7) (s.row 7) (s.v 7)).toArray
def irow (v : Value) (xs : List ByteArray) : Hp.Own := Hp.Own.row 9 1 v xs.length (xs.map Value.string)
def RlS.fam (s : RlS) : Fin 8 → Hp.Own := fun k => irow (s.v k) (s.row k).its
def RlS.own (s : RlS) : Hp.Own := Hp.Own.both (Hp.Own.blk s.g s.cells 127) (Own.fam s.fam)
/-- Rows that are there may be there; the others are empty. -/
def RlS.ok (s : RlS) : Prop := ∀ k, k < 8 → (s.is k = true ∧ may (s.row k) = true) ∨ (s.is k = false ∧ s.row k = RwA.zero)
theorem may_len {r : RwA} (h : may r = true) : r.its.length ≤ 8 := by
  unfold may at h
  simp only [Bool.and_eq_true, decide_eq_true_eq] at h
  have h1 := h.2
  unfold chk at h1
  split at h1
  · simp at h1
  split at h1
  · simp at h1
  split at h1
  · simp at h1
  split at h1
  · simp at h1
  · omega
theorem RlS.ok.len {s : RlS} (h : s.ok) {k : Nat} (hk : k < 8) : (s.row k).its.length ≤ 8 := by
  rcases h k hk with h1 | h1
  · exact may_len h1.2
  · rw [h1.2]; simp [RwA.zero]
theorem RlS.at_ (s : RlS) {k : Nat} (hk : k < 8) : s.cells[k * 6]? = some (.bool (s.is k)) ∧ s.cells[k * 6 + 1]? = some (.int .i64 (s.row k).num) ∧ s.cells[k * 6 + 1 + 1]? = some (.int .i64 (s.row k).at_) ∧ s.cells[k * 6 + 1 + 2]? = some (.int .i64 (s.row k).code) ∧ s.cells[k * 6 + 1 + 3]? = some (.int .i64 (s.row k).n) ∧ s.cells[k * 6 + 1 + 4]? = some (s.v k) := by
  rcases (show k = 0 ∨ k = 1 ∨ k = 2 ∨ k = 3 ∨ k = 4 ∨ k = 5 ∨ k = 6 ∨ k = 7 by omega) with rfl | rfl | rfl | rfl | rfl | rfl | rfl | rfl <;> exact ⟨rfl, rfl, rfl, rfl, rfl, rfl⟩
def RlS.new (g : Nat) : RlS := ⟨g, fun _ => false, fun _ => RwA.zero, fun _ => .slice none 0 0⟩
theorem fam_nil {w : World} : (Own.fam fun _ : Fin 8 => irow (.slice none 0 0) []).holds w := ⟨fun _ => World.ownsRow_nil _ _ _ _, fun i j b hi hj => by cases hi⟩
theorem new_any (w : World) : Calls Try.prog 39 #[] w fun e w' => ∃ g, e = .returned (.pointer (some ⟨g, 0, none⟩)) ∧ Turns w w' Hp.Own.emp (RlS.new g).own := by
  go_enter Try.func39, Try.ntmps39
  go_wp2_with fail
  go_ret
  refine ⟨_, rfl, ?_⟩
  have h := Turns.blk_new w (RlS.new w.heap.size).cells 127
  exact ⟨h.chg, ⟨h.now, fam_nil, fun b hb hf => by obtain ⟨i, hi⟩ := hf; cases hi⟩, fun b hb => hb.elim (fun h1 => h.near b h1) (fun hf => by obtain ⟨i, hi⟩ := hf; cases hi)⟩
/-- What Last tells. -/
def RlS.has (s : RlS) (k : Int) : Bool := decide (0 ≤ k ∧ k < 8 ∧ s.is k.toNat = true)
def RlS.last (s : RlS) (k : Int) : RwA := if s.has k then s.row k.toNat else RwA.zero
theorem src_items {s : RlS} {w : World} (hs : s.own.holds w) {k : Nat} (hk : k < 8) : ∃ A c, s.v k = .slice A (s.row k).its.length c ∧ Src w (.slice A (s.row k).its.length c) (s.row k).its.length 1 ((s.row k).its.map Value.string) := by
  have h : w.ownsRow 0 9 1 (s.v k) (s.row k).its.length ((s.row k).its.map Value.string) := hs.2.1.1 ⟨k, hk⟩
  obtain ⟨A, c, hv⟩ := row_slice h
  rcases h.2 with ⟨hn, h0⟩ | ⟨g, cap, cur, hn, _⟩
  · rw [h0] at h ⊢
    rw [hn] at h
    exact ⟨none, 0, hn, Src.of_own h⟩
  · rw [hn] at h
    exact ⟨_, _, hn, Src.of_own h⟩
theorem its_nil {w w' : World} (hc : Chg (fun _ => False) w w') : Turns w w' Hp.Own.emp (irow (.slice none 0 0) []) := ⟨hc, World.ownsRow_nil _ _ _ _, fun b hb => by cases hb⟩
theorem last_any (s : RlS) (k : Int) (w : World) (hs : s.own.holds w) (hok : s.ok) :
    Calls Try.prog 41 #[.pointer (some ⟨s.g, 0, none⟩), .int .i64 k] w fun e w' => ∃ A c, e = .returned (.tuple #[.agg ((s.last k).cells (.slice A (s.last k).its.length c)), .bool (s.has k)]) ∧
      Turns w w' Hp.Own.emp (irow (.slice A (s.last k).its.length c) (s.last k).its) := by
  have HTH := Lib.hid (fun W => there_any k W)
  unfold RlS.last
  by_cases hk : 0 ≤ k ∧ k < 8
  · obtain ⟨j, rfl⟩ : ∃ j : Nat, k = j := ⟨k.toNat, by omega⟩
    have hj : j < 8 := by omega
    have hth : decide (0 ≤ (j : Int) ∧ (j : Int) < 8) = true := by simpa using hk
    rw [hth] at HTH
    obtain ⟨b0, b1, b2, b3, b4, b5⟩ := s.at_ hj
    have c0 := (hs.1.cell (j * 6)).trans b0
    have c1 := (hs.1.cell (j * 6 + 1)).trans b1
    have c2 := (hs.1.cell (j * 6 + 1 + 1)).trans b2
    have c3 := (hs.1.cell (j * 6 + 1 + 2)).trans b3
    have c4 := (hs.1.cell (j * 6 + 1 + 3)).trans b4
    have c5 := (hs.1.cell (j * 6 + 1 + 4)).trans b5
    have hgl : s.g < w.heap.size := Blk.lt hs.1
    have hd : decide ((j : Int) < 8) = true := by simp; omega
    have hji : (j : Int) < 8 := by omega
    by_cases his : s.is j = true
    · have e : s.has (j : Int) = true := by unfold RlS.has; simp [his]; omega
      rw [e, if_pos rfl]
      rw [his] at c0
      obtain ⟨A, c, hv, hsrc⟩ := src_items hs hj
      rw [hv] at c5
      have hlen := hok.len hj
      have HCP := Lib.hid (fun W (hc : Chg (fun _ => False) w W) => copied_any (s.row j) A (s.row j).its.length c W (Src.keep0 hsrc hc) (by omega))
      simp only [Int.toNat_natCast]
      clear e b0 b1 b2 b3 b4 b5 hs hok hsrc hv his hk hth
      generalize s.row j = r at *
      obtain ⟨num, at_, code, n, xs⟩ := r
      simp only [] at c1 c2 c3 c4 c5 hlen HCP ⊢
      obtain ⟨m, hm⟩ : ∃ m, xs.length = m := ⟨_, rfl⟩
      rw [hm] at HCP c5 hlen ⊢
      have HM := Lib.hid hm
      clear hm
      simp only [RwA.cells] at HCP ⊢
      have HC := Lib.hid ((Chg.refl (fun _ => False) w).alloc (.cells #[.int .i64 0, .int .i64 0, .int .i64 0, .int .i64 0, .slice none 0 0] 75))
      have HB := Lib.hid (Blk.new w #[.int .i64 0, .int .i64 0, .int .i64 0, .int .i64 0, .slice none 0 0] 75)
      go_enter Try.func41, Try.ntmps41
      go_wp2_with (first
        | (go_at_call 84; (with_reducible refine (HTH.out _).mono ?_); rintro e w1 ⟨rfl, rfl⟩)
        | (go_at_call 85; (with_reducible refine (HCP.out _ HC.out).mono ?_); rintro e w1 ⟨A', c', rfl, ht1⟩; have HT1 := Lib.hid ht1; obtain ⟨⟨q0, q1, q2, q3, q4⟩, f0, f1, f2, f3, f4, hl1⟩ := Blk.five (HB.out.chg ht1.chg (fun h => h)); clear ht1))
      refine bodyPost_ret (v := .tuple #[.agg #[.int .i64 num, .int .i64 at_, .int .i64 code, .int .i64 n, .slice A' m c'], .bool true]) (by simp [results, Try.results41, go_sem, *]) rfl ⟨A', c', rfl, ?_⟩
      unfold irow
      rw [HM.out]
      refine Turns.boxes (O := Hp.Own.emp) trivial HC.out HT1.out ?_
      rw [show (w.alloc (.cells #[.int .i64 0, .int .i64 0, .int .i64 0, .int .i64 0, .slice none 0 0] 75)).heap.size = w.heap.size + 1 by simp]
      (repeat (first | (with_reducible exact Chg.refl _ _) | (with_reducible refine Chg.set ?_ (Or.inr ⟨by first | (simp; done) | (simp; omega), by first | (simp; done) | (simp; omega)⟩) _) | (with_reducible refine Chg.set ?_ (Or.inl (by simp)) _) | (with_reducible refine Chg.alloc ?_ _) | (with_reducible refine Chg.drew ?_) | (with_reducible refine Chg.drewN ?_ _)))
    · have his : s.is j = false := by simpa using his
      have e : s.has (j : Int) = false := by unfold RlS.has; simp [his]
      rw [e, if_neg (by simp)]
      rw [his] at c0
      clear e b0 b1 b2 b3 b4 b5 hs
      go_enter Try.func41, Try.ntmps41
      go_wp2_with (go_at_call 84; (with_reducible refine (HTH.out _).mono ?_); rintro e w1 ⟨rfl, rfl⟩)
      refine bodyPost_ret (v := .tuple #[.agg #[.int .i64 0, .int .i64 0, .int .i64 0, .int .i64 0, .slice none 0 0], .bool false]) (by simp [results, Try.results41, go_sem, *]) rfl ⟨none, 0, rfl, its_nil ((Chg.refl _ w).alloc _)⟩
  · have e : s.has k = false := by unfold RlS.has; exact decide_eq_false (fun h => hk ⟨h.1, h.2.1⟩)
    rw [e, if_neg (by simp)]
    have hth : decide (0 ≤ k ∧ k < 8) = false := decide_eq_false hk
    rw [hth] at HTH
    clear e hs hk hth
    go_enter Try.func41, Try.ntmps41
    go_wp2_with (go_at_call 84; (with_reducible refine (HTH.out _).mono ?_); rintro e w1 ⟨rfl, rfl⟩)
    refine bodyPost_ret (v := .tuple #[.agg #[.int .i64 0, .int .i64 0, .int .i64 0, .int .i64 0, .slice none 0 0], .bool false]) (by simp [results, Try.results41, go_sem, *]) rfl ⟨none, 0, rfl, its_nil ((Chg.refl _ w).alloc _)⟩
end Go.Proofs.Ytkpgdonpmfebaaa.Rl
