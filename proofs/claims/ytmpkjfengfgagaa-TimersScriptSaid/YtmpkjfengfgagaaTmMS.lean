/- The law's mark: a text for a number. -/
import Derived.Test.YtmpkjfengfgagaaTmES
import Derived.Lib.BufferRead
import Derived.Laws.IdiomStrings
import Derived.Lib.SlBytesConst
namespace Go.Proofs.Ytmpkjfengfgagaa.Ts
open Go.RowKit Go.Hp
attribute [local go_sem] min2_lean min_two max2_lean max_two
set_option linter.unusedSimpArgs false
set_option linter.unusedVariables false
set_option maxRecDepth 100000
theorem Try.info5 : (Try.prog.info? 5).map (fun i => (i.zero, i.size, i.bytes)) = some (some ((.int .u8 0)), 1, 1) := by kernel_rfl
def bv (x : UInt8) : Value := .int .u8 (x.toNat : Int)
def digs (n : Nat) : List UInt8 := if h : n = 0 then [] else UInt8.ofNat (48 + n % 10) :: digs (n / 10)
termination_by n
decreasing_by omega
def markS (n : Nat) : List UInt8 := 42 :: digs n
theorem digs_len (n : Nat) : (digs n).length ≤ n := by
  induction n using Nat.strongRecOn with
  | ind n ih =>
    unfold digs
    split
    · simp
    · have := ih (n / 10) (by omega)
      simp only [List.length_cons]
      omega
theorem conv_src (w : World) (v : Value) (l : List UInt8) (h : Src w v l.length 1 (l.map bv)) : (convert 32 9 v).run Try.prog w = .ok (.string ⟨l.toArray⟩) w := by
  rcases h.2 with ⟨c, rfl, h0⟩ | ⟨ad, c, rfl, hc⟩
  · have : l = [] := List.eq_nil_of_length_eq_zero h0
    subst this
    exact Lib.run_convert_nil_bytes w 32 9 5 c Try.underlying32 Try.underlying5 Try.underlying9
  · exact run_convert_bytes_back w 32 9 5 ad c l Try.underlying32 Try.underlying5 Try.underlying9 (fun j hj => hc j _ (by simp [hj, bv]))
theorem alloc_chg (w : World) (o : Obj) : Chg (fun _ => False) w (w.alloc o) := (Chg.refl _ _).alloc o
theorem star_cell (w : World) : (w.alloc (.cells #[.int .u8 42] 5 (1, 2))).cell? ⟨w.heap.size, 0, none⟩ = some (.int .u8 42) :=
  cell_of_row _ w.heap.size 0 #[.int .u8 42] 5 (1, 2) (by show (w.heap.push _)[w.heap.size]? = _; simp)
set_option maxHeartbeats 1000000 in
theorem mark_any (n : Nat) (w : World) (hn : n ≤ 8796093022208) : Calls Try.prog 98 #[.int .i64 n] w fun e w' => e = .returned (encStr (markS n)) ∧ Chg (fun _ => False) w w' := by
  obtain ⟨ij, hij, hzaj, hzbj, hzcj⟩ := info_parts Try.info5
  have kc := fun (w : World) (C : Array Value) (n c : Nat) => Lib.run_convert_bytes_const (P := Try.prog) w 32 5 C n c Try.underlying32 Try.underlying5
  go_enter Try.func98, Try.ntmps98
  go_wp2_with fail
  go_loopw [0, 3] (fun x0 x3 wr => ∃ (m k : Nat) (pre : List UInt8) (A : Option Addr) (c : Nat), x0 = .int .i64 m ∧ x3 = .slice A k c ∧ pre.length = k ∧ markS n = pre ++ digs m ∧ m ≤ n ∧
    (pre = [42] ∧ A = some ⟨w.heap.size, 0, none⟩ ∧ c = 1 ∧ wr = w.alloc (.cells #[.int .u8 42] 5 (1, 2)) ∨ Turns w wr Hp.Own.emp (Hp.Own.row 5 1 (.slice A k c) k (pre.map bv)))) (fun x0 _ _ => (intOf x0).toNat)
  case atStart => exact ⟨n, 1, [42], _, 1, rfl, rfl, rfl, rfl, Nat.le_refl _, Or.inl ⟨rfl, rfl, rfl, rfl⟩⟩
  case round =>
    obtain ⟨m, k, pre, A, c, rfl, rfl, hk, hp, hmn, ht⟩ := hrel
    have HP := Lib.hid hp
    have HK := Lib.hid hk
    have hkb : k ≤ 8796093022209 := by
      have h1 := congrArg List.length hp
      simp only [markS, List.length_cons, List.length_append] at h1
      have := digs_len n
      omega
    clear hp hk
    by_cases h0 : m = 0
    · subst h0
      have hcv : (convert 32 9 (.slice A k c)).run Try.prog wr = .ok (.string ⟨pre.toArray⟩) wr := by
        refine conv_src wr (.slice A k c) pre ?_
        rw [HK.out]
        rcases ht with ⟨rfl, rfl, rfl, rfl⟩ | ht
        · have hk1 := HK.out
          refine ⟨by simpa using hk1, Or.inr ⟨⟨w.heap.size, 0, none⟩, 1, rfl, fun j u hu => ?_⟩⟩
          cases j with
          | zero =>
            have : u = .int .u8 42 := by simpa [bv] using hu.symm
            subst this
            exact star_cell w
          | succ j => simp at hu
        · exact Src.of_own ht.now
      have hch : Chg (fun _ => False) w wr := by
        rcases ht with ⟨_, _, _, rfl⟩ | ht
        · exact alloc_chg w _
        · exact ht.chg.mono fun _ _ h => h
      have hd : decide ((0 : Int) < 0) = false := by simp
      go_wp2_with fail
      go_ret
      refine ⟨?_, hch⟩
      have h1 : digs 0 = [] := by unfold digs; simp
      rw [HP.out, h1, List.append_nil]
      rfl
    · have hd : decide ((0 : Int) < (m : Int)) = true := by simp; omega
      have hd' : decide (0 < m) = true := by simp; omega
      have e1 : (m : Int).tmod 10 = ((m % 10 : Nat) : Int) := by rw [Int.tmod_eq_emod_of_nonneg (by omega)]; omega
      have e2 : (m : Int).tdiv 10 = ((m / 10 : Nat) : Int) := by rw [Int.tdiv_eq_ediv_of_nonneg (by omega)]; omega
      have hdg : digs m = UInt8.ofNat (48 + m % 10) :: digs (m / 10) := by rw [digs, dif_neg h0]
      have HDG := Lib.hid hdg
      have hby : Value.int .u8 (48 + (m : Int) % 10) = bv (UInt8.ofNat (48 + m % 10)) := by
        unfold bv
        have : (UInt8.ofNat (48 + m % 10)).toNat = 48 + m % 10 := by simp [UInt8.toNat_ofNat]; omega
        rw [this]
        congr 1
      have HBY := Lib.hid hby
      clear hdg hby
      rcases ht with ⟨rfl, rfl, rfl, rfl⟩ | ht
      · obtain rfl : 1 = k := HK.out
        go_wp2_with (first
          | ((at_builtin; refine wpList_appG _ rfl (.tmp 10) (.tmp 15) 32 rfl 5 ij (.int .u8 0) 1 Try.underlying32 hij hzaj hzbj hzcj rfl w.heap.size 1 [.int .u8 42] rfl _ _ _ rfl (by first | rfl | simp) rfl (by simp) (fun j u hu => by
              cases j with
              | zero =>
                have : u = .int .u8 42 := by simpa using hu.symm
                subst this
                exact star_cell w
              | succ j => simp at hu) (by simp only [maxLen]; omega) (by omega) ?_; intro g4 c4 w4 hc4 ht4; have HT4 := Lib.hid ht4; clear ht4)))
        go_roundw
        case rel =>
          refine ⟨m / 10, 2, [42, UInt8.ofNat (48 + m % 10)], _, _, by simp, rfl, rfl, by rw [HP.out, HDG.out]; rfl, by omega, Or.inr ?_⟩
          have h := HT4.out
          rw [HBY.out] at h
          exact ⟨(alloc_chg w _).trans h.chg |>.mono (fun _ _ h => h), h.now, fun b hb => (h.near b hb).elim (fun h => h.elim) (fun h => Or.inr (Nat.le_trans (by simp) h))⟩
        case measure => simp only [intOf]; omega
      · have HT := Lib.hid ht
        clear ht
        go_wp2_with (first
          | ((at_builtin; refine wpList_app1 _ rfl (.tmp 10) (.tmp 15) 32 rfl 5 ij (.int .u8 0) 1 1 Try.underlying32 hij hzaj hzbj hzcj rfl (by decide) (.slice A k c) k (pre.map bv) rfl _ _ _ rfl (by first | rfl | simp) HT.out.now rfl (by simp [Value.oneCell']) (by simp only [maxLen]; omega) (by omega) ?_; intro g4 c4 w4 hc4 ht4; have HT4 := Lib.hid ht4; clear ht4)))
        go_roundw
        case rel =>
          refine ⟨m / 10, k + 1, pre ++ [UInt8.ofNat (48 + m % 10)], _, _, by simp, rfl, by rw [List.length_append, HK.out]; rfl, by rw [HP.out, HDG.out, List.append_assoc]; rfl, by omega, Or.inr ?_⟩
          have h := HT.out.trans HT4.out
          rw [List.map_append, List.map_cons, List.map_nil, ← HBY.out]
          exact h
        case measure => simp [intOf]; omega
end Go.Proofs.Ytmpkjfengfgagaa.Ts
