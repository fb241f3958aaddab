/- Package sheets: the walk through the tree of stamps. -/
import Derived.Test.YtmpkjfengfgagaaBkH
namespace Go.Proofs.Ytmpkjfengfgagaa.Bk
open Go.Shelf
open Go.RowKit Go.Hp
attribute [local go_sem] min2_lean min_two max2_lean max_two
set_option linter.unusedSimpArgs false
set_option linter.unusedVariables false
set_option maxRecDepth 100000
theorem newer_one (at_ : Nat → Int) (a : Int) (u : Nat) : newer at_ a u (2 ^ 0) = if a < at_ u then [u] else [] := by
  unfold newer
  by_cases h : a < at_ u
  · simp [h]
  · simp [h]
theorem newer_two (at_ : Nat → Int) (a : Int) (u d : Nat) : newer at_ a u (2 ^ (d + 1)) = newer at_ a u (2 ^ d) ++ newer at_ a (u + 2 ^ d) (2 ^ d) := by rw [Nat.pow_succ, Nat.mul_two, newer_add]
/-- How the walk ends. -/
def WkP (P : Pool) (b : Bk) (gN yb l : Nat) (J Jx : List (Nat × Value) → World → Prop) (tot : List Nat) (pre : List (Nat × Value)) (ns : List Nat) (t : Bool) (W' : World) : Prop :=
  (t = true ∧ ∃ xs, xs.map (·.1) = ns ∧ J (pre ++ xs) W' ∧ Mom P b gN yb l W') ∨ (t = false ∧ ∃ xs, (pre ++ xs).map (·.1) <+: tot ∧ Jx (pre ++ xs) W')
set_option maxHeartbeats 2000000 in
theorem walk_rec {P : Pool} {b : Bk} {A : Ab} (his : Bk.Is P b A) (hsh : ∀ k, k < 8 → (b.pc k, pcC b.at_ b.dv k) ∈ P.Q) {gN yb l : Nat}
    {J Jx : List (Nat × Value) → World → Prop} {B : Nat} (hJ : AbidesFrom B J) {tot : List Nat}
    (hY : ∀ pre x W0 W1, J pre W0 → J pre W1 → ElS A.db x W0 W1 → pre.length < tot.length → YieldAt Fence.wide 0 Try.prog l (encS A.at_ x) W1 fun e W' => (e = .returned (.bool true) ∧ J (pre ++ [x]) W' ∧ Kps P W1 W') ∨ (e = .returned (.bool false) ∧ Jx (pre ++ [x]) W'))
    (a : Int) (h0 : 0 ≤ a) : ∀ d x from_, x * 2 ^ d = b.wd + from_ → from_ + 2 ^ d ≤ b.wd → ∀ (pre : List (Nat × Value)) (W : World), J pre W → Mom P b gN yb l W → (pre.map (·.1) ++ newer A.at_ a from_ (2 ^ d)) <+: tot →
    Calls Try.prog 66 #[.pointer (some ⟨gN, 0, none⟩), .int .i64 x, .int .i64 a, .func (.func 67) #[] #[.pointer (some ⟨gN, 0, none⟩), .pointer (some ⟨yb, 0, none⟩)]] W fun e W' => ∃ t : Bool, e = .returned (.bool t) ∧ WkP P b gN yb l J Jx tot pre (newer A.at_ a from_ (2 ^ d)) t W'
  | d, x, from_, hx, hf, pre, W, hj, hm, hp => by
    have hr := wdF_rng his.ok.n1 his.ok.n64
    have hwd := his.ok.wd
    have hw64 : b.wd ≤ 64 := by omega
    clear hr hwd
    have h1d : 1 ≤ 2 ^ d := Nat.one_le_two_pow
    have hx128 : x < 128 := by
      have h9 : x * 1 ≤ x * 2 ^ d := Nat.mul_le_mul_left _ h1d
      omega
    have htop := tree_top his.ok.tr (fun i => (his.ok.a0 i).1) d x from_ hx hf
    rw [his.at_] at htop
    have ct : W.cell? ⟨gN, 10 + x, none⟩ = some (.int .i64 (b.tp x)) := now_tp hm.now hx128
    have cw : W.cell? ⟨gN, 1, none⟩ = some (.int .i64 b.wd) := now_wd hm.now
    have i0 : (0 : Int) ≤ (x : Int) := Int.natCast_nonneg _
    have i1 : (x : Int) < 128 := by omega
    by_cases c1 : b.tp x ≤ a
    · have d1 : decide (b.tp x ≤ a) = true := by simpa using c1
      have hnil : newer A.at_ a from_ (2 ^ d) = [] := (newer_nil h0).2 (by rw [← htop]; exact c1)
      have HE : Hid (WkP P b gN yb l J Jx tot pre (newer A.at_ a from_ (2 ^ d)) true W) := Lib.hid (Or.inl ⟨rfl, [], by rw [hnil]; rfl, by simpa using hj, hm⟩)
      clear hY hJ hj hm hp htop his hsh hx hf hnil c1
      go_enter Try.func66, Try.ntmps66
      go_wp2_with fail
      go_ret
      exact ⟨true, rfl, HE.out⟩
    · have d1 : decide (b.tp x ≤ a) = false := by simpa using c1
      cases d with
      | zero =>
        have e : x = b.wd + from_ := by simpa using hx
        have hf : from_ < b.wd := by rw [Nat.pow_zero] at hf; omega
        have hu64 : from_ < 64 := by omega
        have hat : a < A.at_ from_ := by
          have h9 := his.ok.tr.leaf from_ hf
          rw [← e, his.at_] at h9
          omega
        have hone : newer A.at_ a from_ (2 ^ 0) = [from_] := by rw [newer_one, if_pos hat]
        have hlt : pre.length < tot.length := by
          have := hp.length_le
          rw [hone] at this
          simp at this
          omega
        have hpx : ∀ v : Value, (pre ++ [(from_, v)]).map (fun (z : Nat × Value) => z.1) <+: tot := fun (v : Value) => by rw [List.map_append]; rw [hone] at hp; exact hp
        have HL := Lib.hid (leaf_any his hsh hm from_ hu64 hJ hY pre hj hlt)
        have HON := Lib.hid hone
        have HPX := Lib.hid hpx
        have d2 : decide ((b.wd : Int) ≤ (x : Int)) = true := by simp; omega
        have d3 : decide (b.wd ≤ x) = true := by simp; omega
        have hw : IntKind.i64.wrap ((x : Int) - (b.wd : Int)) = (from_ : Int) := by rw [IntWalk.i64_in _ (by omega)]; omega
        clear hY hJ hj hm hp htop his hsh hx hf c1 e hat hone hlt hpx
        go_enter Try.func66, Try.ntmps66
        go_wp2_with (first
          | (go_at_call 67; (with_reducible refine HL.out.mono ?_); rintro e W2 ⟨t, rfl, hh⟩; have HH := Lib.hid hh; clear hh))
        go_ret
        refine ⟨t, rfl, ?_⟩
        rcases HH.out with ⟨rfl, v, h1, h2⟩ | ⟨rfl, v, h1⟩
        · exact Or.inl ⟨rfl, [(from_, v)], by rw [HON.out]; rfl, h1, h2⟩
        · exact Or.inr ⟨rfl, [(from_, v)], HPX.out v, h1⟩
      | succ d =>
        obtain ⟨a1, a2, a3, a4⟩ := node_two hx hf
        have hlt := node_lt hx hf
        have d2 : decide ((b.wd : Int) ≤ (x : Int)) = false := by simp; omega
        have d3 : decide (b.wd ≤ x) = false := by simp; omega
        have hnw := newer_two A.at_ a from_ d
        rw [hnw] at hp
        have hp1 : (pre.map (·.1) ++ newer A.at_ a from_ (2 ^ d)) <+: tot := (show _ <+: _ by rw [← List.append_assoc]; exact List.prefix_append _ _).trans hp
        have R1 := Lib.hid (walk_rec his hsh hJ hY a h0 d (2 * x) from_ a1 a2 pre W hj hm hp1)
        have R2 : Hid (∀ xs W2, xs.map (·.1) = newer A.at_ a from_ (2 ^ d) → J (pre ++ xs) W2 → Mom P b gN yb l W2 → Calls Try.prog 66 #[.pointer (some ⟨gN, 0, none⟩), .int .i64 ((2 * x + 1 : Nat) : Int), .int .i64 a, .func (.func 67) #[] #[.pointer (some ⟨gN, 0, none⟩), .pointer (some ⟨yb, 0, none⟩)]] W2 fun e W' => ∃ t : Bool, e = .returned (.bool t) ∧ WkP P b gN yb l J Jx tot (pre ++ xs) (newer A.at_ a (from_ + 2 ^ d) (2 ^ d)) t W') := Lib.hid (fun xs W2 h1 h2 h3 => walk_rec his hsh hJ hY a h0 d (2 * x + 1) (from_ + 2 ^ d) a3 a4 (pre ++ xs) W2 h2 h3 (by rw [List.map_append, h1, List.append_assoc]; exact hp))
        have HNW := Lib.hid hnw
        have w1 : IntKind.i64.wrap ((2 : Int) * (x : Int)) = ((2 * x : Nat) : Int) := by rw [IntWalk.i64_in _ (by omega)]; omega
        have w2 : IntKind.i64.wrap (((2 * x : Nat) : Int) + 1) = ((2 * x + 1 : Nat) : Int) := by rw [IntWalk.i64_in _ (by omega)]; omega
        obtain ⟨x2, hx2⟩ : ∃ z, z = 2 * x := ⟨_, rfl⟩
        obtain ⟨x3, hx3⟩ : ∃ z, z = 2 * x + 1 := ⟨_, rfl⟩
        rw [← hx3] at R2 w2
        rw [← hx2] at R1 w1 w2
        clear hY hJ hj hm hp hp1 htop his hsh hx hf c1 hnw a1 a2 a3 a4 hx2 hx3
        go_enter Try.func66, Try.ntmps66
        go_wp2_with (first
          | (go_at_call 66; (with_reducible refine R1.out.mono ?_); rintro e W2 ⟨t, rfl, hh⟩; rcases hh with ⟨rfl, xs, e1, hj2, hm2⟩ | ⟨rfl, xs, e1, hj2⟩)
          | (go_at_call 66; (with_reducible refine (R2.out xs W2 e1 hj2 hm2).mono ?_); rintro e W3 ⟨t, rfl, hh⟩; have HH := Lib.hid hh; clear hh))
        · go_ret
          refine ⟨t, rfl, ?_⟩
          rw [HNW.out]
          rcases HH.out with ⟨rfl, ys, e2, hj3, hm3⟩ | ⟨rfl, ys, e2, hj3⟩
          · exact Or.inl ⟨rfl, xs ++ ys, by rw [List.map_append, e1, e2], by rw [← List.append_assoc]; exact hj3, hm3⟩
          · exact Or.inr ⟨rfl, xs ++ ys, by rw [← List.append_assoc]; exact e2, by rw [← List.append_assoc]; exact hj3⟩
        · go_ret
          exact ⟨false, rfl, Or.inr ⟨rfl, xs, e1, hj2⟩⟩
end Go.Proofs.Ytmpkjfengfgagaa.Bk
