/- Arguments of bounded bulk; slices of numbers as arguments. -/
import Derived.Test.YtkpgdonpmfebaaaRows
import Derived.Test.YtkpgdonpmfebaaaArg
import Derived.Test.YtkpgdonpmfebaaaAppS
namespace Go.Proofs.Ytkpgdonpmfebaaa
open Go.RowKit Go.Hp Go.Deep Go.ChangeShapes Go.WideShapes
set_option linter.unusedVariables false
set_option maxRecDepth 100000
def upB : Nat := 1048576
def ArgUp (w : World) (T : TypeId) (v : Value) : Prop :=
  ∃ (H : Type) (enc : TypeId × Value → H) (d : DataW H) (p : List MemPlace) (base : Nat), Value.okWide Try.prog w .any base T v ∧ DataW.Trod enc Try.prog w 0 (fun _ => true) true T v d p ∧ (d.weights Try.prog T).all (· ≤ reachBytes) = true ∧ Rows.uptoBulk d ≤ upB
theorem ArgUp.ok {w : World} {T : TypeId} {v : Value} (h : ArgUp w T v) : ArgOk Try.prog w T v := by
  obtain ⟨H, enc, d, p, base, h1, h2, h3, h4⟩ := h
  exact ⟨H, enc, d, p, base, h1, h2, h3⟩
theorem bulk_one {H : Type} (d : DataW H) : 1 ≤ Rows.uptoBulk d := by
  cases d with
  | lit l => cases l <;> simp [Rows.uptoBulk]
  | nil => simp [Rows.uptoBulk]
  | ptr d => simp [Rows.uptoBulk]
  | slice elems spare => simp [Rows.uptoBulk]
  | agg parts => simp [Rows.uptoBulk]
  | iface t d => simp [Rows.uptoBulk]
  | map entries => simp [Rows.uptoBulk]
  | held h => simp [Rows.uptoBulk]
theorem bulk_len {H : Type} (l : List (DataW H)) : l.length ≤ Rows.uptoBulkAll l := by
  induction l with
  | nil => simp [Rows.uptoBulkAll]
  | cons x r ih => have := bulk_one x; simp only [Rows.uptoBulkAll, List.length_cons]; omega
theorem ArgUp.len {w : World} {T e : TypeId} {A : Option Addr} {n c : Nat} (hu : Try.prog.underlying T = some (.slice e)) (h : ArgUp w T (.slice A n c)) : n ≤ upB := by
  obtain ⟨H, enc, d, p, base, _, ⟨fuel, hf⟩, _, hb⟩ := h
  rcases open_slice hu hf with ⟨h0, _⟩ | ⟨a, len, cap, m, k, D, Pl, hcs, _, hl, hm, hmm, hx, _⟩
  · simp [Value.cells] at h0
    omega
  · simp [Value.cells] at hcs
    obtain ⟨rfl, rfl, rfl⟩ := hcs
    have hd : d = _ := congrArg Prod.fst hx
    rw [hd] at hb
    simp only [Rows.uptoBulk] at hb
    have := bulk_len ((List.range n).map D)
    simp at this
    omega
/-- A slice of numbers as an argument. -/
theorem ints_open {w : World} {T E : TypeId} {k : IntKind} {v : Value} (hu : Try.prog.underlying T = some (.slice E)) (hE : Try.prog.underlying E = some (.int k)) (hc : Try.prog.cellsOf E = 1) (h : ArgOk Try.prog w T v) :
    ∃ A ns cap, v = .slice A (List.length ns) cap ∧ (∀ n ∈ ns, (Lit.int k n).wf = true) ∧ Src w v ns.length 1 (ns.map (Value.int k)) ∧ ns.length * Try.prog.bytesOf E ≤ 140737488351232 ∧ ns.length ≤ cap := by
  obtain ⟨A, len, cap, rfl⟩ := h.slice hu
  rcases h.rdg.slice hu (by rw [hc]; decide) with h0 | ⟨a, l, c, hcs, hl, hm, hb, hi⟩
  · simp [Value.cells] at h0
    obtain ⟨rfl, rfl, rfl⟩ := h0
    exact ⟨none, [], 0, rfl, fun _ h => by simp at h, ⟨rfl, Or.inl ⟨0, rfl, rfl⟩⟩, by simp, by simp⟩
  · simp [Value.cells] at hcs
    obtain ⟨rfl, rfl, rfl⟩ := hcs
    have hx : ∀ i, ∃ n : Int, i < len → (Lit.int k n).wf = true ∧ w.cell? (a.add i) = some (.int k n) := by
      intro i
      by_cases hil : i < len
      · obtain ⟨b, off, cs', rfl, hbl, hcl, hr, hcell⟩ := hi i (by omega)
        obtain ⟨n, rfl, hw⟩ := hr.int hE
        have h1 := hcell 0 _ rfl
        rw [hc] at h1
        refine ⟨n, fun _ => ⟨hw, ?_⟩⟩
        have ha : (⟨b, off, none⟩ : Addr).add i = ⟨b, off + i * 1 + 0, none⟩ := by unfold Addr.add; split <;> simp_all
        rw [ha]
        exact h1
      · exact ⟨0, fun h => absurd h hil⟩
    obtain ⟨f, hf⟩ := Classical.axiomOfChoice hx
    have hlen : ((List.range len).map f).length = len := by simp
    have hbytes : len * Try.prog.bytesOf E ≤ cap * Try.prog.bytesOf E := Nat.mul_le_mul_right _ hl
    refine ⟨some a, (List.range len).map f, cap, by rw [hlen], ?_, ?_, by rw [hlen]; omega, by rw [hlen]; exact hl⟩
    · intro n hn
      obtain ⟨i, hi2, rfl⟩ := List.mem_map.1 hn
      exact (hf i (by simpa using hi2)).1
    · rw [hlen]
      refine ⟨by simp, Or.inr ⟨a, cap, rfl, fun j u hu => ?_⟩⟩
      have hj : j < len := by
        have := (List.getElem?_eq_some_iff.1 hu).1
        simpa using this
      rw [(hf j hj).2]
      simp [hj] at hu
      rw [hu]
end Go.Proofs.Ytkpgdonpmfebaaa
