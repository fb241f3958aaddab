/- Bytes as cells; numbers in groups of seven bits; a writer of the program. Plain. -/
import Derived.Test.YtkpgdonpmfebaaaSp
namespace Go.Proofs.Ytkpgdonpmfebaaa.Bt
open Go.RowKit Go.Hp
set_option linter.unusedSimpArgs false
set_option linter.unusedVariables false

def bv (b : UInt8) : Value := .int .u8 b.toNat
/-- A number in groups of seven bits, the low ones first. -/
def vi (n : Nat) : List UInt8 := if h : n < 128 then [UInt8.ofNat n] else UInt8.ofNat (n % 128 + 128) :: vi (n / 128)
termination_by n
decreasing_by omega
theorem vi_lt {n : Nat} (h : n < 128) : vi n = [UInt8.ofNat n] := by rw [vi, dif_pos h]
theorem vi_ge {n : Nat} (h : ¬ n < 128) : vi n = UInt8.ofNat (n % 128 + 128) :: vi (n / 128) := by rw [vi, dif_neg h]
theorem vi_len (k : Nat) : ∀ n, n < 128 ^ (k + 1) → (vi n).length ≤ k + 1 := by
  induction k with
  | zero => intro n h; rw [vi_lt (by simpa using h)]; simp
  | succ k ih =>
    intro n h
    by_cases h1 : n < 128
    · rw [vi_lt h1]; simp
    · rw [vi_ge h1, List.length_cons]
      have := ih (n / 128) (by rw [Nat.pow_succ] at h; exact Nat.div_lt_of_lt_mul (by rw [Nat.mul_comm]; exact h))
      omega
theorem vi_len64 (n : Nat) (h : n < 2 ^ 64) : (vi n).length ≤ 10 := vi_len 9 n (by have : (2 : Nat) ^ 64 ≤ 128 ^ 10 := by decide
                                                                                   omega)
theorem vi_pos (n : Nat) : 1 ≤ (vi n).length := by
  by_cases h : n < 128
  · rw [vi_lt h]; simp
  · rw [vi_ge h]; simp

structure WrS where
  g : Nat
  v : Value
  bs : List UInt8
  bad : Bool
def WrS.own (s : WrS) : Own := Own.both (Own.blk s.g #[s.v, .bool s.bad] 106) (Own.row 5 1 s.v s.bs.length (s.bs.map bv))
theorem WrS.cells {s : WrS} {w : World} (h : s.own.holds w) : w.cell? ⟨s.g, 0, none⟩ = some s.v ∧ w.cell? ⟨s.g, 1, none⟩ = some (.bool s.bad) ∧ w.frozen? ⟨s.g, 0, none⟩ = false ∧ w.frozen? ⟨s.g, 1, none⟩ = false :=
  ⟨Blk.cell h.1 0, Blk.cell h.1 1, Blk.frozen h.1 0, Blk.frozen h.1 1⟩
/-- Behind an append and the store of what came of it. -/
theorem WrS.after {s : WrS} {w W W1 : World} {O : Own} (h : Turns w W O s.own) (hg : W.grownBy W1 s.v.ownBlock) : W1.cell? ⟨s.g, 0, none⟩ = some s.v ∧ W1.frozen? ⟨s.g, 0, none⟩ = false ∧ W1.cell? ⟨s.g, 1, none⟩ = some (.bool s.bad) := by
  have hb1 : Blk W1 s.g #[s.v, .bool s.bad] 106 := Blk.chg h.now.1 (Chg.of_grown hg) (fun e => h.now.2.2 s.g rfl e)
  exact ⟨hb1.cell 0, hb1.frozen 0, hb1.cell 1⟩
theorem WrS.put {s : WrS} {w W W1 : World} {O : Own} (h : Turns w W O s.own) (v1 : Value) (cs : List UInt8) (h1 : W1.ownsRow 0 5 1 v1 (s.bs.length + cs.length) ((s.bs.map bv) ++ cs.map bv)) (hg : W.grownBy W1 s.v.ownBlock)
    (hat : v1.ownBlock = s.v.ownBlock ∨ v1.ownBlock = some W.heap.size) : Turns w (W1.setCell ⟨s.g, 0, none⟩ v1) O ({ s with v := v1, bs := s.bs ++ cs } : WrS).own := by
  have hgl : s.g < W.heap.size := Blk.lt h.now.1
  have hgs := hg.size
  have hb1 : Blk W1 s.g #[s.v, .bool s.bad] 106 := Blk.chg h.now.1 (Chg.of_grown hg) (fun e => h.now.2.2 s.g rfl e)
  have hne : v1.ownBlock ≠ some s.g := by
    rcases hat with e | e
    · rw [e]; exact fun hh => h.now.2.2 s.g rfl hh
    · rw [e]; intro hh; have := Option.some.inj hh; omega
  refine h.trans ⟨?_, ⟨?_, ?_, ?_⟩, ?_⟩
  · exact Chg.set (S := s.own.foot) (Chg.mono (T := s.own.foot) (Chg.of_grown hg) (fun k _ hk => Or.inr hk)) (p := ⟨s.g, 0, none⟩) (Or.inr (Or.inl rfl)) _
  · show Blk _ s.g #[v1, .bool s.bad] 106
    simpa using hb1.set 0 v1
  · show (W1.setCell ⟨s.g, 0, none⟩ v1).ownsRow 0 5 1 v1 (s.bs ++ cs).length ((s.bs ++ cs).map bv)
    rw [List.length_append, List.map_append]
    exact row_heap h1 fun b hb => Below.heap_setCell _ _ _ _ (fun e => hne (by rw [hb, e]))
  · exact fun b hb1 hb2 => hne (by rw [show b = s.g from hb1] at hb2; exact hb2)
  · rintro b (hb | hb)
    · exact Or.inl (Or.inl hb)
    · have hb : v1.ownBlock = some b := hb
      rcases hat with e | e
      · exact Or.inl (Or.inr (show s.v.ownBlock = some b by rw [← e]; exact hb))
      · rw [e] at hb; cases hb; exact Or.inr (Nat.le_refl _)
end Go.Proofs.Ytkpgdonpmfebaaa.Bt
