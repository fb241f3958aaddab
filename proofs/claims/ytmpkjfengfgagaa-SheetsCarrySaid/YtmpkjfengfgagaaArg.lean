/- What an argument that can be read holds, type by type. Plain lemmas on readings. -/
import Derived.Test.YtmpkjfengfgagaaHp
import Derived.Deep.Slices
import Derived.ChangeSame
namespace Go.Hp
open Go.RowKit Go.Deep Go.ChangeShapes Go.WideShapes

/-- These cells can be read as a value of type T, and nothing in it takes more than fits. -/
def Rdg (P : Program) (w : World) (T : TypeId) (cs : List Value) : Prop :=
  ∃ (H : Type) (enc : TypeId × Value → H) (fuel : Nat) (x : DataW H × List MemPlace), DataW.trod enc P w 0 (fun _ => true) true fuel T cs = some x ∧ ∀ n ∈ x.1.weights P T, n ≤ reachBytes

section
variable {P : Program} {w : World} {T : TypeId} {cs : List Value}
theorem ArgOk.rdg {v : Value} (h : ArgOk P w T v) : Rdg P w T v.cells.toList := by
  obtain ⟨H, enc, d, p, base, _, ⟨fuel, hf⟩, hw⟩ := h
  exact ⟨H, enc, fuel, (d, p), hf, fun n hn => by simpa using List.all_eq_true.1 hw n hn⟩
theorem ArgOk.slice {v : Value} {e : TypeId} (hu : P.underlying T = some (.slice e)) (h : ArgOk P w T v) : ∃ A len cap, v = .slice A len cap := by
  obtain ⟨H, enc, d, p, base, hok, _⟩ := h
  exact okWide_slice hu hok
theorem Rdg.int {k : IntKind} (hu : P.underlying T = some (.int k)) (h : Rdg P w T cs) : ∃ n, cs = [.int k n] ∧ (Lit.int k n).wf = true := by
  obtain ⟨H, enc, fuel, x, hf, _⟩ := h
  cases fuel with
  | zero => simp [DataW.trod] at hf
  | succ n =>
    unfold DataW.trod at hf
    rw [hu] at hf
    split at hf <;> simp_all
theorem Rdg.bool (hu : P.underlying T = some .bool) (h : Rdg P w T cs) : ∃ b, cs = [.bool b] := by
  obtain ⟨H, enc, fuel, x, hf, _⟩ := h
  cases fuel with
  | zero => simp [DataW.trod] at hf
  | succ n =>
    unfold DataW.trod at hf
    rw [hu] at hf
    split at hf <;> simp_all
theorem Rdg.float {k : FloatKind} (hu : P.underlying T = some (.float k)) (h : Rdg P w T cs) : ∃ b, cs = [.float k b] ∧ (Lit.float k b).wf = true := by
  obtain ⟨H, enc, fuel, x, hf, _⟩ := h
  cases fuel with
  | zero => simp [DataW.trod] at hf
  | succ n =>
    unfold DataW.trod at hf
    rw [hu] at hf
    split at hf <;> simp_all
theorem Rdg.string (hu : P.underlying T = some .string) (h : Rdg P w T cs) : ∃ s : ByteArray, cs = [.string s] ∧ s.size ≤ 140737488351232 := by
  obtain ⟨H, enc, fuel, x, hf, hw⟩ := h
  cases fuel with
  | zero => simp [DataW.trod] at hf
  | succ n =>
    unfold DataW.trod at hf
    rw [hu] at hf
    split at hf <;> simp_all
    obtain ⟨_, rfl⟩ := hf
    have := hw _ (by simp [DataW.weights]; rfl)
    simpa [reachBytes] using this
theorem Rdg.struct {fs : Array Field} (hu : P.underlying T = some (.struct fs)) (h : Rdg P w T cs) :
    cs.length = P.cellsOf T ∧ ∀ (i : Nat) (f : Field), fs[i]? = some f → Rdg P w f.type ((cs.drop f.offset).take (P.cellsOf f.type)) := by
  obtain ⟨H, enc, fuel, x, hf, hw⟩ := h
  obtain ⟨xs, n, _, rfl, hl, hlen, hg⟩ := DataW.trod_struct hu hf
  refine ⟨hl, fun i f hi => ?_⟩
  have hil : i < fs.size := (Array.getElem?_eq_some_iff.1 hi).1
  have hx : xs[i]? = some (xs[i]'(by omega)) := List.getElem?_eq_getElem (by omega)
  refine ⟨H, enc, n, xs[i]'(by omega), (hg i f hi).trans hx, fun m hm => hw m ?_⟩
  simp only [DataW.weights, hu]
  exact DataW.weights_mem_each (j := i) (t := f.type) (d := (xs[i]'(by omega)).1) (by simp [hi]) (by simp [hx]) m hm
theorem mem_weightsAll {H : Type} {e : TypeId} {l : List (DataW H)} {d : DataW H} (hd : d ∈ l) {n : Nat} (hn : n ∈ d.weights P e) : n ∈ DataW.weightsAll P e l := by
  induction l with
  | nil => cases hd
  | cons a r ih =>
    simp only [DataW.weightsAll, List.mem_append]
    rcases List.mem_cons.1 hd with rfl | h
    · exact .inl hn
    · exact .inr (ih h)
theorem addr_add_add (a : Addr) (i j : Nat) : (a.add i).add j = a.add (i + j) := by
  unfold Addr.add
  by_cases hi : i = 0 <;> by_cases hj : j = 0 <;> simp [hi, hj, Nat.add_assoc]
theorem Rdg.slice {e : TypeId} (hu : P.underlying T = some (.slice e)) (hs : 0 < P.cellsOf e) (h : Rdg P w T cs) :
    cs = [.slice none 0 0] ∨ ∃ (a : Addr) (len cap : Nat), cs = [.slice (some a) len cap] ∧ len ≤ cap ∧ cap ≤ maxLen ∧ cap * P.bytesOf e ≤ 140737488351232 ∧
      ∀ i, i < cap → ∃ (b off : Nat) (cs' : List Value), a = ⟨b, off, none⟩ ∧ b < w.heap.size ∧ cs'.length = P.cellsOf e ∧ Rdg P w e cs' ∧ ∀ j u, cs'[j]? = some u → w.cell? ⟨b, off + i * P.cellsOf e + j, none⟩ = some u := by
  obtain ⟨H, enc, fuel, x, hf, hw⟩ := h
  rcases open_slice hu hf with ⟨h0, _⟩ | ⟨a, len, cap, m, n, D, Pl, hcs, hb, hl, hm, hmm, hx, hi⟩
  · exact .inl h0
  · simp only [if_true] at hmm
    subst hmm
    refine .inr ⟨a, len, m, hcs, hl, hm, ?_, fun i hii => ?_⟩
    · have h1 : (len + (m - len)) * P.bytesOf e ∈ x.1.weights P T := by
        rw [hx]
        simp [DataW.weights, hu]
      have h2 := hw _ h1
      rw [show len + (m - len) = m by omega] at h2
      simpa [reachBytes] using h2
    · obtain ⟨cs', hc, ht⟩ := hi i hii
      obtain ⟨_, hcl, hat⟩ := World.cells?_some hc
      have hne : ∃ u, w.cell? ((a.add (i * P.cellsOf e)).add 0) = some u := ⟨cs'[0]'(by omega), by rw [hat 0 hs]; exact List.getElem?_eq_getElem (by omega)⟩
      obtain ⟨u, hu0⟩ := hne
      obtain ⟨b, off, sp⟩ := a
      have hadd0 : ∀ k : Nat, (⟨b, off, none⟩ : Addr).add k = ⟨b, off + k, none⟩ := by
        intro k
        unfold Addr.add
        split
        · subst_vars; rfl
        · rfl
      have hblk : b < w.heap.size := by
        have hbk : ((⟨b, off, sp⟩ : Addr).add (i * P.cellsOf e)).add 0 = (⟨b, off, sp⟩ : Addr).add (i * P.cellsOf e) := by rw [addr_add_add, Nat.add_zero]
        rw [hbk] at hu0
        have := World.block_lt_of_cell? w _ hu0
        simpa [Addr.add] using (show ((⟨b, off, sp⟩ : Addr).add (i * P.cellsOf e)).block < w.heap.size from this) |> fun h => by
          unfold Addr.add at h
          split at h <;> exact h
      have hsp : sp = none := by
        have h0 := hi 0 (by omega)
        obtain ⟨cs0, hc0, _⟩ := h0
        obtain ⟨_, hcl0, hat0⟩ := World.cells?_some hc0
        have := hat0 0 hs
        rw [List.getElem?_eq_getElem (by omega), Nat.zero_mul] at this
        simp only [Addr.add, if_true] at this
        cases sp with
        | none => rfl
        | some s =>
          unfold World.cell? at this
          split at this <;> simp at this
      subst hsp
      refine ⟨b, off, cs', rfl, hblk, hcl, ⟨H, enc, n, _, ht, fun k hk => hw k ?_⟩, fun j u hj => ?_⟩
      · rw [hx]
        simp only [DataW.weights, hu, List.mem_cons, List.mem_append]
        by_cases hil : i < len
        · exact .inr (.inl (mem_weightsAll (List.mem_map.2 ⟨i, by simpa using hil, rfl⟩) hk))
        · exact .inr (.inr (mem_weightsAll (List.mem_map.2 ⟨i - len, by simp; omega, by rw [show len + (i - len) = i by omega]⟩) hk))
      · have hjl : j < P.cellsOf e := by rw [← hcl]; exact (List.getElem?_eq_some_iff.1 hj).1
        have := hat j hjl
        rw [addr_add_add, hadd0, ← Nat.add_assoc] at this
        rw [this, hj]
end
end Go.Hp
