/- The law's items laid down: laid. -/
import Derived.Test.YtkpgdonpmfebaaaBiO
import Derived.Test.YtkpgdonpmfebaaaBiB
import Derived.Test.YtkpgdonpmfebaaaAp
namespace Go.Proofs.Ytkpgdonpmfebaaa.Bt
open Go.RowKit Go.Hp
attribute [local go_sem] min2_lean min_two max2_lean max_two
set_option linter.unusedSimpArgs false
set_option linter.unusedVariables false
set_option maxRecDepth 100000
theorem Try.info3 : (Try.prog.info? 3).map (fun i => (i.zero, i.size, i.bytes)) = some (some (.int .i64 0), 1, 8) := by kernel_rfl

/-- An item as bytes. -/
def enc (x : ItA) : List UInt8 := if x.kind = 1 then vi x.n.toNat else if x.kind = 2 then vi (zz x.n) else if x.kind = 3 then [if x.v then 1 else 0] else vi x.s.size ++ x.s.data.toList
def encs (its : List ItA) : List UInt8 := (its.map fun x => enc x.right).flatten
theorem right_fits {x : ItA} (h : x.fits) : x.right.fits ∧ x.right.s = x.s ∧ 1 ≤ x.right.kind ∧ x.right.kind ≤ 5 ∧ (x.right.kind = 1 → 0 ≤ x.right.n) := by
  obtain ⟨k, n, v, s⟩ := x
  obtain ⟨h1, h2, h3⟩ := h
  simp only [] at h1 h2 h3
  unfold ItA.right ItA.fits
  simp only []
  split
  · exact ⟨⟨by simp, h2, h3⟩, rfl, by simp, by simp, by simp⟩
  · split
    · exact ⟨⟨h1, by simp only []; omega, h3⟩, rfl, by simp only []; omega, by simp only []; omega, by simp only []; omega⟩
    · exact ⟨⟨h1, h2, h3⟩, rfl, by simp only []; omega, by simp only []; omega, by simp only []; omega⟩
theorem enc_len {x : ItA} (h : x.fits) : 1 ≤ (enc x).length ∧ (enc x).length ≤ x.s.size + 10 := by
  have h63 : (9223372036854775807 : Int).toNat < 2 ^ 64 := by decide
  have h64 : (2 : Nat) ^ 64 = 18446744073709551616 := by decide
  obtain ⟨_, h2, h3⟩ := h
  unfold enc
  split
  · exact ⟨vi_pos _, by have := vi_len64 x.n.toNat (by omega); omega⟩
  · split
    · exact ⟨vi_pos _, by have := vi_len64 (zz x.n) (zz_lt _ h2.1 h2.2); omega⟩
    · split
      · simp
      · have h1 := vi_len64 x.s.size (by omega)
        have h2 := vi_pos x.s.size
        have h4 : x.s.data.toList.length = x.s.size := by rw [Array.length_toList]; rfl
        rw [List.length_append, h4]
        omega
theorem encs_take (its : List ItA) (i : Nat) (h : i < its.length) : encs (its.take (i + 1)) = encs (its.take i) ++ enc its[i].right := by
  unfold encs
  rw [List.take_add_one, List.getElem?_eq_getElem h]
  simp only [Option.toList_some, List.map_append, List.flatten_append, List.map_cons, List.map_nil, List.flatten_cons, List.flatten_nil, List.append_nil]
theorem encs_len (its : List ItA) (h : ∀ i (hi : i < its.length), its[i].fits) (i : Nat) (hi : i ≤ its.length) : (encs (its.take i)).length ≤ 10 * tot (its.take i) := by
  induction i with
  | zero => simp [encs]
  | succ i ih =>
    rw [encs_take its i (by omega), List.length_append, tot_take its i (by omega)]
    have h1 := ih (by omega)
    have h2 := right_fits (h i (by omega))
    have h3 := enc_len h2.1
    rw [h2.2.1] at h3
    omega
theorem tot_le (its : List ItA) (i : Nat) : tot (its.take i) ≤ tot its := by
  conv => rhs; rw [← List.take_append_drop i its]
  unfold tot
  rw [List.map_append, List.sum_append]
  omega
theorem tot_len (its : List ItA) : its.length ≤ tot its := by
  induction its with
  | nil => simp
  | cons a l ih => unfold tot at *; simp only [List.map_cons, List.sum_cons, List.length_cons]; omega
def endsC (its : List ItA) (i : Nat) : List Value := (List.range i).map fun j => .int .i64 ((encs (its.take (j + 1))).length : Int)
theorem endsC_succ (its : List ItA) (i : Nat) : endsC its (i + 1) = endsC its i ++ [.int .i64 ((encs (its.take (i + 1))).length : Int)] := by
  unfold endsC
  rw [List.range_succ, List.map_append]
  rfl

/-- What a writer's step comes to. -/
def Wrote (s : WrS) (x : ItA) (w : World) (r : Ending) (w' : World) : Prop := r = .returned (.tuple #[]) ∧ ∃ v', Turns w w' s.own ({ s with v := v', bs := s.bs ++ enc x } : WrS).own
section
variable (s : WrS) (w : World) (hs : s.own.holds w) (hb : s.bad = false)
include hs hb
theorem wrote_num (n : Int) (b : Bool) (x : ByteArray) (h0 : 0 ≤ n) (h1 : n ≤ 9223372036854775807) (hl : s.bs.length + 10 ≤ 140737488355328) :
    Calls Try.prog 59 #[.pointer (some ⟨s.g, 0, none⟩), .int .i64 n] w (Wrote s ⟨1, n, b, x⟩ w) := by
  obtain ⟨k, rfl⟩ : ∃ k : Nat, n = k := ⟨n.toNat, by omega⟩
  exact num_ok s k w hs (by have : (2 : Nat) ^ 63 = 9223372036854775808 := by decide
                            omega) hb hl
theorem wrote_signed (n : Int) (b : Bool) (x : ByteArray) (h0 : -9223372036854775808 ≤ n) (h1 : n ≤ 9223372036854775807) (hl : s.bs.length + 10 ≤ 140737488355328) :
    Calls Try.prog 60 #[.pointer (some ⟨s.g, 0, none⟩), .int .i64 n] w (Wrote s ⟨2, n, b, x⟩ w) := signed_ok s n w hs h0 h1 hb hl
theorem wrote_bool (n : Int) (b : Bool) (x : ByteArray) (hl : s.bs.length + 10 ≤ 140737488355328) :
    Calls Try.prog 65 #[.pointer (some ⟨s.g, 0, none⟩), .bool b] w (Wrote s ⟨3, n, b, x⟩ w) := bool_ok s b w hs hb hl
theorem wrote_text (n : Int) (b : Bool) (x : ByteArray) (hl : s.bs.length + x.size + 10 ≤ 140737488355328) :
    Calls Try.prog 61 #[.pointer (some ⟨s.g, 0, none⟩), .string x] w (Wrote s ⟨4, n, b, x⟩ w) := (text_ok s x w hs hb hl).mono fun _ _ ⟨h1, v, h2⟩ => ⟨h1, v, by rw [List.append_assoc] at h2; exact h2⟩
end
end Go.Proofs.Ytkpgdonpmfebaaa.Bt
