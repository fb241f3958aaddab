/- Arguments opened: slices of anything. Plain. -/
import Derived.Test.YtmpkjfengfgagaaProg
import Derived.Test.YtmpkjfengfgagaaArg
import Derived.Test.YtmpkjfengfgagaaAp
namespace Go.Hp
open Go.RowKit Go.Deep
set_option linter.unusedVariables false
/-- What can be read of one thing's cells. -/
abbrev Rd (α : Type) := World → List Value → α → Prop
def Rd.Keeps {α : Type} (R : Rd α) : Prop := ∀ {w w' : World} {cs : List Value} {x : α}, R w cs x → Chg (fun _ => False) w w' → R w' cs x
def IntR (k : IntKind) : Rd Int := fun _ cs n => cs = [.int k n] ∧ (Lit.int k n).wf = true
def StrR : Rd ByteArray := fun _ cs s => cs = [.string s] ∧ s.size ≤ 140737488351232
def BoolR : Rd Bool := fun _ cs b => cs = [.bool b]
/-- A slice of things of so many cells. -/
def SlR {α : Type} (size bytes : Nat) (R : Rd α) : Rd (List α) := fun w cs l =>
  ∃ A cap, cs = [.slice A l.length cap] ∧ l.length ≤ cap ∧ cap * bytes ≤ 140737488351232 ∧ cap ≤ maxLen ∧ ∀ i (h : i < l.length), ∃ b off, A = some ⟨b, off, none⟩ ∧ b < w.heap.size ∧ ∃ ds, ds.length = size ∧ R w ds l[i] ∧ ∀ j u, ds[j]? = some u → w.cell? ⟨b, off + i * size + j, none⟩ = some u
theorem IntR.keeps (k : IntKind) : (IntR k).Keeps := fun h _ => h
theorem StrR.keeps : StrR.Keeps := fun h _ => h
theorem BoolR.keeps : BoolR.Keeps := fun h _ => h
theorem SlR.keeps {α : Type} {size bytes : Nat} {R : Rd α} (hR : R.Keeps) : (SlR size bytes R).Keeps := fun {w w' cs l} h hc => by
  obtain ⟨A, cap, h1, h2, h3, h4, h5⟩ := h
  refine ⟨A, cap, h1, h2, h3, h4, fun i hi => ?_⟩
  obtain ⟨b, off, ha, hb, ds, d1, d2, d3⟩ := h5 i hi
  exact ⟨b, off, ha, Nat.lt_of_lt_of_le hb hc.size, ds, d1, hR d2 hc, fun j u hu => (hc.cell (p := ⟨b, off + i * size + j, none⟩) hb (fun h => h)).trans (d3 j u hu)⟩
/-- One-cell things as a source. -/
theorem SlR.src {α : Type} {bytes : Nat} {R : Rd α} {w : World} {A : Option Addr} {n c : Nat} {l : List α} (g : α → Value) (hg : ∀ w cs x, R w cs x → cs = [g x]) (h : SlR 1 bytes R w [.slice A n c] l) : l.length = n ∧ Src w (.slice A n c) n 1 (l.map g) := by
  obtain ⟨A', cap, h1, h2, h3, h4, h5⟩ := h
  simp only [List.cons.injEq, Value.slice.injEq, and_true] at h1
  obtain ⟨rfl, rfl, rfl⟩ := h1
  refine ⟨rfl, by simp, ?_⟩
  cases l with
  | nil =>
    cases A with
    | none =>
      by_cases hc : c = 0
      · subst hc; exact Or.inl ⟨0, rfl, rfl⟩
      · exact Or.inl ⟨c, rfl, rfl⟩
    | some a => exact Or.inr ⟨a, c, rfl, fun j u hu => by simp at hu⟩
  | cons x r =>
    obtain ⟨b, off, rfl, _⟩ := h5 0 (by simp)
    refine Or.inr ⟨_, c, rfl, fun j u hu => ?_⟩
    obtain ⟨hj, rfl⟩ := List.getElem?_eq_some_iff.1 hu
    have hj : j < (x :: r).length := by simpa using hj
    obtain ⟨b', off', ha, _, ds, d1, d2, d3⟩ := h5 j hj
    simp only [Option.some.injEq, Addr.mk.injEq, and_true] at ha
    obtain ⟨rfl, rfl⟩ := ha
    have h6 := hg _ _ _ d2
    have h7 := d3 0 (g (x :: r)[j]) (by rw [h6]; rfl)
    have ha : (⟨b, off, none⟩ : Addr).add j = ⟨b, off + j * 1 + 0, none⟩ := by unfold Addr.add; split <;> simp_all
    rw [ha, h7]
    exact congrArg some (List.getElem_map g).symm
theorem SlR.at_ {α : Type} {size bytes : Nat} {R : Rd α} {w : World} {A : Option Addr} {n c : Nat} {l : List α} (h : SlR size bytes R w [.slice A n c] l) {i : Nat} (hi : i < l.length) :
    ∃ b off, A = some ⟨b, off, none⟩ ∧ b < w.heap.size ∧ ∃ ds, ds.length = size ∧ R w ds l[i] ∧ ∀ j u, ds[j]? = some u → w.cell? ⟨b, off + i * size + j, none⟩ = some u := by
  obtain ⟨A', cap, h1, h2, h3, h4, h5⟩ := h
  simp only [List.cons.injEq, Value.slice.injEq, and_true] at h1
  obtain ⟨rfl, rfl, rfl⟩ := h1
  exact h5 i hi
theorem SlR.form {α : Type} {size bytes : Nat} {R : Rd α} {w : World} {cs : List Value} {l : List α} (h : SlR size bytes R w cs l) : ∃ A c, cs = [.slice A l.length c] ∧ SlR size bytes R w [.slice A l.length c] l ∧ l.length * bytes ≤ 140737488351232 := by
  have h0 := h
  obtain ⟨A, cap, h1, h2, h3, h4, h5⟩ := h
  exact ⟨A, cap, h1, h1 ▸ h0, Nat.le_trans (Nat.mul_le_mul_right _ h2) h3⟩
section
variable {P : Program} {w : World} {T : TypeId} {cs : List Value}
theorem Rdg.intR {k : IntKind} (hu : P.underlying T = some (.int k)) (h : Rdg P w T cs) : ∃ n, IntR k w cs n := h.int hu
theorem Rdg.strR (hu : P.underlying T = some .string) (h : Rdg P w T cs) : ∃ n, StrR w cs n := h.string hu
theorem Rdg.boolR (hu : P.underlying T = some .bool) (h : Rdg P w T cs) : ∃ n, BoolR w cs n := h.bool hu
theorem Rdg.slR {α : Type} [Inhabited α] {R : Rd α} {e : TypeId} {size bytes : Nat} (hu : P.underlying T = some (.slice e)) (hs : P.cellsOf e = size) (hs0 : 0 < size) (hb : P.bytesOf e = bytes) (hR : ∀ ds, Rdg P w e ds → ∃ x, R w ds x) (h : Rdg P w T cs) : ∃ l, SlR size bytes R w cs l := by
  rcases h.slice hu (by omega) with h0 | ⟨a, l, c, hcs, hl, hm, hby, hi⟩
  · exact ⟨[], none, 0, h0, Nat.le_refl _, by omega, Nat.zero_le _, fun i hi => by simp at hi⟩
  · rw [hb] at hby
    have hx : ∀ i, ∃ x : α, i < l → ∃ b off, a = ⟨b, off, none⟩ ∧ b < w.heap.size ∧ ∃ ds, ds.length = size ∧ R w ds x ∧ ∀ j u, ds[j]? = some u → w.cell? ⟨b, off + i * size + j, none⟩ = some u := by
      intro i
      by_cases hil : i < l
      · obtain ⟨b, off, ds, h1, h2, h3, h4, h5⟩ := hi i (by omega)
        obtain ⟨x, hx⟩ := hR ds h4
        rw [hs] at h3 h5
        exact ⟨x, fun _ => ⟨b, off, h1, h2, ds, h3, hx, h5⟩⟩
      · exact ⟨default, fun h => absurd h hil⟩
    obtain ⟨f, hf⟩ := Classical.axiomOfChoice hx
    have hlen : ((List.range l).map f).length = l := by simp
    refine ⟨(List.range l).map f, some a, c, by rw [hcs, hlen], by rw [hlen]; exact hl, hby, hm, fun i hi => ?_⟩
    obtain ⟨b, off, ha, hbl, ds, d1, d2, d3⟩ := hf i (by simpa using hi)
    refine ⟨b, off, by rw [ha], hbl, ds, d1, ?_, d3⟩
    rw [show ((List.range l).map f)[i] = f i by simp]
    exact d2
theorem ArgOk.slR {α : Type} [Inhabited α] {R : Rd α} {e : TypeId} {size bytes : Nat} {v : Value} (hu : P.underlying T = some (.slice e)) (hs : P.cellsOf e = size) (hs0 : 0 < size) (hb : P.bytesOf e = bytes) (hR : ∀ ds, Rdg P w e ds → ∃ x, R w ds x) (h : ArgOk P w T v) : ∃ A n c l, v = .slice A n c ∧ List.length l = n ∧ SlR size bytes R w [.slice A n c] l ∧ n * bytes ≤ 140737488351232 := by
  obtain ⟨A, n, c, rfl⟩ := h.slice hu
  obtain ⟨l, hl⟩ := Rdg.slR hu hs hs0 hb hR h.rdg
  have e1 : (Value.slice A n c).cells.toList = [.slice A n c] := rfl
  rw [e1] at hl
  obtain ⟨A', c', h1, h2, h3⟩ := hl.form
  simp only [List.cons.injEq, Value.slice.injEq, and_true] at h1
  obtain ⟨rfl, rfl, rfl⟩ := h1
  exact ⟨_, _, _, l, rfl, rfl, hl, h3⟩
end
end Go.Hp
