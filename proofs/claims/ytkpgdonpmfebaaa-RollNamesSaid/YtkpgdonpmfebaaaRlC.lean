/- Package roll: items copied, what may be. -/
import Derived.Test.YtkpgdonpmfebaaaProg
import Derived.Test.YtkpgdonpmfebaaaAp
import Derived.WalkKit
import Derived.ProofKit
import Derived.Deep.QuietTactic
import Derived.Deep.RegionHeld3
import Derived.Deep.RegionLaw
import Derived.Lib.Hide
import Derived.OwnWalk
import Derived.WalkSpells
namespace Go.Proofs.Ytkpgdonpmfebaaa.Rl
open Go.RowKit Go.Hp
attribute [local go_sem] min2_lean min_two max2_lean max_two
set_option linter.unusedSimpArgs false
set_option linter.unusedVariables false
set_option maxRecDepth 100000
theorem Try.info9 : (Try.prog.info? 9).map (fun i => (i.zero, i.size, i.bytes)) = some (some (.string ByteArray.empty), 1, 16) := by kernel_rfl
/-- What a row says, but for its items. -/
structure RwA where
  num : Int
  at_ : Int
  code : Int
  n : Int
  its : List ByteArray
def RwA.cells (r : RwA) (v : Value) : Array Value := #[.int .i64 r.num, .int .i64 r.at_, .int .i64 r.code, .int .i64 r.n, v]
def its (A : Option Addr) (n c : Nat) (xs : List ByteArray) : Hp.Own := Hp.Own.row 9 1 (.slice A n c) n (xs.map Value.string)
theorem one_strs (xs : List ByteArray) : ∀ u ∈ xs.map Value.string, u.oneCell' = true := fun u hu => by obtain ⟨b, _, rfl⟩ := List.mem_map.1 hu; rfl
theorem Src.keep0 {w w' : World} {x : Value} {n size : Nat} {cs : List Value} (h : Src w x n size cs) (hc : Chg (fun _ => False) w w') : Src w' x n size cs := by
  refine ⟨h.1, ?_⟩
  rcases h.2 with h | ⟨ad, c, rfl, hcell⟩
  · exact Or.inl h
  · refine Or.inr ⟨ad, c, rfl, fun j u hu => ?_⟩
    have hl : (ad.add j).block < w.heap.size := by
      rcases Nat.lt_or_ge (ad.add j).block w.heap.size with hlt | hge
      · exact hlt
      · have h1 : w.heap[(ad.add j).block]? = none := Array.getElem?_eq_none hge
        have h2 := hcell j u hu
        simp [World.cell?, h1] at h2
    exact (hc.cell hl (fun h => h)).trans (hcell j u hu)
theorem clone_any (A : Option Addr) (n c : Nat) (xs : List ByteArray) (w : World) (hx : Src w (.slice A n c) n 1 (xs.map Value.string)) (hn : n * 16 ≤ 140737488355328) :
    Calls Try.prog 101 #[.slice A n c] w fun r w' => ∃ A' c', r = .returned (.slice A' n c') ∧ Turns w w' Hp.Own.emp (its A' n c' xs) := by
  have HX := Lib.hid hx
  have HL := Lib.hid (Turns.row_lit w Hp.Own.emp #[] 9 1 0 (by simp [maxLen]) rfl)
  have HX2 : Hid (Src (w.alloc (.cells #[] 9)) (.slice A n c) n 1 (xs.map Value.string)) := Lib.hid (Src.keep0 hx ((Chg.refl (fun _ => False) w).alloc _))
  obtain ⟨i0, hi0, hza0, hzb0, hzc0⟩ := info_parts Try.info9
  have hnil := fun (w : World) A n c => Lib.run_eql_slice_nil (P := Try.prog) w 71 9 A n c 0 0 Try.underlying71
  cases A with
  | none =>
    have h0 : n = 0 := by
      rcases hx.2 with ⟨c', h, _⟩ | ⟨ad, c', h, _⟩
      · injection h
      · injection h with h1; cases h1
    subst h0
    have hxs : xs = [] := by have := hx.1; simpa using this
    subst hxs
    clear hx
    go_enter Try.func101, Try.ntmps101
    go_wp2_with fail
    go_ret
    exact ⟨none, 0, rfl, ⟨Chg.refl _ _, World.ownsRow_nil _ _ _ _, fun b hb => by cases hb⟩⟩
  | some ad =>
    clear hx
    go_enter Try.func101, Try.ntmps101
    go_wp2_with (at_builtin; refine wpList_appS _ rfl (.tmp 5) (.tmp 6) 71 rfl 9 i0 (.string ByteArray.empty) 1 16 Try.underlying71 hi0 hza0 hzb0 hzc0 rfl (by decide) _ 0 [] rfl HL.out.now _ n (xs.map Value.string) rfl HX2.out (one_strs xs) (by simp only [maxLen]; omega) (by omega) ?_; intro A5 c5 w5 ht5; have HT5 := Lib.hid ht5; clear ht5)
    go_ret
    have h5 : Turns w w5 Hp.Own.emp (its A5 n c5 xs) := by
      have := HL.out.trans HT5.out
      unfold its
      simpa using this
    exact ⟨A5, c5, by simp [Array.getD], h5⟩
/-- Which results may be. -/
def chk (code n : Int) (xs : List ByteArray) : Int :=
  if code < 0 ∨ 4 < code then 50 else if code ≠ 0 ∧ (n ≠ 0 ∨ 0 < xs.length) then 55 else if n < 0 ∨ 1099511627776 < n then 53 else if 8 < xs.length then 54 else if ∃ s ∈ xs, 64 < s.size then 52 else 0
theorem src_at {A : Option Addr} {n c : Nat} {xs : List ByteArray} {w : World} (h : Src w (.slice A n c) n 1 (xs.map Value.string)) (i : Nat) (hi : i < xs.length) : ∃ ad, A = some ad ∧ w.cell? (ad.add i) = some (.string xs[i]) := by
  have hl : xs.length = n := by have := h.1; simpa using this
  rcases h.2 with ⟨c', h, h0⟩ | ⟨ad, c', h, hc⟩
  · omega
  · injection h with h1
    exact ⟨ad, h1, hc i _ (by simp [hi])⟩
theorem check_any (code n : Int) (A : Option Addr) (m c : Nat) (xs : List ByteArray) (w : World) (hx : Src w (.slice A m c) m 1 (xs.map Value.string)) :
    Calls Try.prog 102 #[.agg #[.int .i64 code, .int .i64 n, .slice A m c]] w fun r w' => r = .returned (.int .i64 (chk code n xs)) ∧ Chg (fun _ => False) w w' := by
  have hm : xs.length = m := by have := hx.1; simpa using this
  have HC := Lib.hid ((Chg.refl (fun _ => False) w).alloc (.cells #[.int .i64 code, .int .i64 n, .slice A m c] 73))
  have HX := Lib.hid (Src.keep0 hx HC.out)
  have HM := Lib.hid hm
  have hE : chk code n xs = (if code < 0 ∨ 4 < code then 50 else if code ≠ 0 ∧ (n ≠ 0 ∨ 0 < m) then 55 else if n < 0 ∨ 1099511627776 < n then 53 else if 8 < m then 54 else if ∃ s ∈ xs, 64 < s.size then 52 else 0) := by unfold chk; rw [hm]
  rw [hE]
  clear hx hm hE
  by_cases h1 : code < 0 ∨ 4 < code
  · rw [if_pos h1]
    have e1 : (decide (code < 0) = true ∧ True) ∨ (decide (code < 0) = false ∧ decide (4 < code) = true) := by
      rcases (show code < 0 ∨ 0 ≤ code by omega) with h | h
      · left; exact ⟨by simpa using h, trivial⟩
      · right; exact ⟨by simp; omega, by simp; omega⟩
    clear h1
    rcases e1 with ⟨e1, e2⟩ | ⟨e1, e2⟩
    all_goals
      go_enter Try.func102, Try.ntmps102
      go_wp2_with fail
      go_ret
      exact ⟨rfl, (Chg.refl _ w).alloc _⟩
  · rw [if_neg h1]
    have e1 : decide (code < 0) = false := by simp; omega
    have e2 : decide (4 < code) = false := by simp; omega
    clear h1
    by_cases h2 : code ≠ 0 ∧ (n ≠ 0 ∨ 0 < m)
    · rw [if_pos h2]
      have e3 : (code != 0) = true := by simpa using h2.1
      have e4 : ((n != 0) = true ∧ True) ∨ ((n != 0) = false ∧ 0 < m) := by
        by_cases h : n = 0
        · right; exact ⟨by simpa using h, by rcases h2.2 with h3 | h3; exact absurd h h3; exact h3⟩
        · left; exact ⟨by simpa using h, trivial⟩
      clear h2
      rcases e4 with ⟨e4, e5⟩ | ⟨e4, e5⟩
      all_goals
        have e6 : decide (0 < (m : Int)) = decide (0 < m) := by simp
        go_enter Try.func102, Try.ntmps102
        go_wp2_with fail
        go_ret
        exact ⟨rfl, (Chg.refl _ w).alloc _⟩
    · rw [if_neg h2]
      have e3 : ((code != 0) = false ∧ True ∧ True) ∨ ((code != 0) = true ∧ (n != 0) = false ∧ m = 0) := by
        by_cases h : code = 0
        · left; exact ⟨by simpa using h, trivial, trivial⟩
        · right
          have h3 : ¬ (n ≠ 0 ∨ 0 < m) := fun h4 => h2 ⟨h, h4⟩
          have h5 : n = 0 := Decidable.byContradiction fun h6 => h3 (Or.inl h6)
          exact ⟨by simpa using h, by simpa using h5, by omega⟩
      clear h2
      by_cases h3 : n < 0 ∨ 1099511627776 < n
      · rw [if_pos h3]
        have e4 : (decide (n < 0) = true ∧ True) ∨ (decide (n < 0) = false ∧ decide (1099511627776 < n) = true) := by
          rcases (show n < 0 ∨ 0 ≤ n by omega) with h | h
          · left; exact ⟨by simpa using h, trivial⟩
          · right; exact ⟨by simp; omega, by simp; omega⟩
        clear h3
        rcases e4 with ⟨e4, e5⟩ | ⟨e4, e5⟩ <;> rcases e3 with ⟨e3, e6, e7⟩ | ⟨e3, e6, e7⟩
        all_goals
          go_enter Try.func102, Try.ntmps102
          go_wp2_with fail
          go_ret
          exact ⟨rfl, (Chg.refl _ w).alloc _⟩
      · rw [if_neg h3]
        have e4 : decide (n < 0) = false := by simp; omega
        have e5 : decide (1099511627776 < n) = false := by simp; omega
        clear h3
        by_cases h4 : 8 < m
        · rw [if_pos h4]
          have e8 : decide (8 < (m : Int)) = true := by simp; omega
          rcases e3 with ⟨e3, e6, e7⟩ | ⟨e3, e6, e7⟩
          all_goals
            first
              | (exfalso; omega)
              | (go_enter Try.func102, Try.ntmps102
                 go_wp2_with fail
                 go_ret
                 exact ⟨rfl, (Chg.refl _ w).alloc _⟩)
        · rw [if_neg h4]
          have e8 : decide (8 < (m : Int)) = false := by simp; omega
          have hm8 : m ≤ 8 := by omega
          obtain ⟨res, hres⟩ : ∃ z : Int, z = (if ∃ s ∈ xs, 64 < s.size then 52 else 0) := ⟨_, rfl⟩
          rw [← hres]
          have HR := Lib.hid hres
          clear hres
          rcases e3 with ⟨e3, e6, e7⟩ | ⟨e3, e6, e7⟩
          · clear e6 e7
            go_enter Try.func102, Try.ntmps102
            go_wp2_with fail
            go_loopw [46] (fun x46 wr => ∃ i : Nat, x46 = .int .i64 i ∧ i ≤ m ∧ (∀ j (h : j < xs.length), j < i → xs[j].size ≤ 64) ∧ w.alloc (.cells #[.int .i64 code, .int .i64 n, .slice A m c] 73) = wr) (fun x46 _ => m - (intOf x46).toNat)
            case atStart => exact ⟨0, rfl, Nat.zero_le _, fun j h hj => absurd hj (by omega), rfl⟩
            case round =>
              obtain ⟨i, rfl, him, hsz, rfl⟩ := hrel
              have HSZ := Lib.hid hsz
              clear hsz
              by_cases hlt : i < m
              · have hd : decide ((i : Int) < (m : Int)) = true := by simp; omega
                have hd' : decide (i < m) = true := by simpa using hlt
                have hil : i < xs.length := by rw [HM.out]; exact hlt
                obtain ⟨ad, rfl, hc⟩ := src_at HX.out i hil
                have HIN := Lib.hid (List.getElem_mem hil)
                have HXI := Lib.hid (fun z (h : xs[i].size = z) => h)
                obtain ⟨z, hz⟩ : ∃ z, xs[i].size = z := ⟨_, rfl⟩
                have HZ := Lib.hid hz
                by_cases hb : 64 < z
                · have e9 : decide (64 < (z : Int)) = true := by simp; omega
                  have HR5 : Hid (res = 52) := Lib.hid (by rw [HR.out, if_pos ⟨xs[i], HIN.out, by rw [hz]; exact hb⟩])
                  generalize xs[i] = b at *
                  clear HIN HXI
                  go_wp2_with fail
                  go_ret
                  rw [HR5.out]
                  exact ⟨rfl, (Chg.refl _ w).alloc _⟩
                · have e9 : decide (64 < (z : Int)) = false := by simp; omega
                  have HNX : Hid (∀ j (h : j < xs.length), j < i + 1 → xs[j].size ≤ 64) := Lib.hid fun j h hj => by
                    by_cases e : j = i
                    · subst e; rw [HZ.out]; omega
                    · exact HSZ.out j h (by omega)
                  generalize xs[i] = b at *
                  clear HIN HXI
                  go_wp2_with fail
                  go_roundw
                  case rel => exact ⟨i + 1, by simp, by omega, HNX.out, trivial⟩
                  case measure => simp [intOf]; omega
              · have hd : decide ((i : Int) < (m : Int)) = false := by simp; omega
                have hd' : decide (i < m) = false := by simpa using hlt
                have HR0 : Hid (res = 0) := Lib.hid (by
                  rw [HR.out, if_neg (fun ⟨b, hb, h⟩ => by
                    obtain ⟨j, hj, rfl⟩ := List.getElem_of_mem hb
                    have := HSZ.out j hj (by have := HM.out; omega)
                    omega)])
                go_wp2_with fail
                go_ret
                rw [HR0.out]
                exact ⟨rfl, (Chg.refl _ w).alloc _⟩
          · subst e7
            have hx0 : xs = [] := List.eq_nil_of_length_eq_zero HM.out
            have HR0 : Hid (res = 0) := Lib.hid (by rw [HR.out, hx0]; simp)
            clear hx0
            go_enter Try.func102, Try.ntmps102
            go_wp2_with fail
            go_loopw [46] (fun x46 wr => x46 = .int .i64 0 ∧ w.alloc (.cells #[.int .i64 code, .int .i64 n, .slice A 0 c] 73) = wr) (fun x46 _ => 0)
            case atStart => exact ⟨rfl, rfl⟩
            case round =>
              obtain ⟨rfl, rfl⟩ := hrel
              go_wp2_with fail
              go_ret
              rw [HR0.out]
              exact ⟨rfl, (Chg.refl _ w).alloc _⟩
end Go.Proofs.Ytkpgdonpmfebaaa.Rl
