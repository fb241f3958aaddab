/- A reader of the program and an item that is being read. Plain. -/
import Derived.Test.YtkpgdonpmfebaaaBtW
namespace Go.Proofs.Ytkpgdonpmfebaaa.Bt
open Go.RowKit Go.Hp
set_option linter.unusedSimpArgs false
set_option linter.unusedVariables false

theorem Turns.bothl {w w' : World} {g : Nat} {cs cs' : Array Value} {T : TypeId} {O : Own} (h : (Own.both (Own.blk g cs T) O).holds w) (hs : SetBlk w w' g cs' T) :
    Turns w w' (Own.both (Own.blk g cs T) O) (Own.both (Own.blk g cs' T) O) :=
  ⟨hs.chg.mono fun b _ hb => Or.inl hb, ⟨hs.blk, Own.chg h.2.1 hs.chg (fun b hb e => h.2.2 b e hb), h.2.2⟩, fun b hb => Or.inl hb⟩

/-- A reader: its block, its bytes, the place, what is amiss. -/
structure RdS where
  g : Nat
  v : Value
  bs : List UInt8
  at_ : Nat
  e : Int
def RdS.own (s : RdS) : Own := Own.both (Own.blk s.g #[s.v, .int .i64 s.at_, .int .i64 s.e] 111) (Own.row 5 1 s.v s.bs.length (s.bs.map bv))
theorem RdS.cells {s : RdS} {w : World} (h : s.own.holds w) : w.cell? ⟨s.g, 0, none⟩ = some s.v ∧ w.cell? ⟨s.g, 1, none⟩ = some (.int .i64 s.at_) ∧ w.cell? ⟨s.g, 2, none⟩ = some (.int .i64 s.e) ∧
    w.frozen? ⟨s.g, 1, none⟩ = false ∧ w.frozen? ⟨s.g, 2, none⟩ = false :=
  ⟨Blk.cell h.1 0, Blk.cell h.1 1, Blk.cell h.1 2, Blk.frozen h.1 1, Blk.frozen h.1 2⟩
theorem RdS.form {s : RdS} {w : World} (h : s.own.holds w) : ∃ A c, s.v = .slice A s.bs.length c := by
  rcases h.2.1.2 with ⟨hv, h0⟩ | ⟨g, cap, cur, hv, _⟩
  · exact ⟨none, 0, by rw [hv, h0]⟩
  · exact ⟨_, _, hv⟩
theorem RdS.byte {s : RdS} {w : World} (h : s.own.holds w) (k : Nat) (hk : k < s.bs.length) : ∃ gv c, s.v = .slice (some ⟨gv, 0, none⟩) s.bs.length c ∧ w.cell? ⟨gv, k, none⟩ = some (bv s.bs[k]) ∧ s.bs.length ≤ c := by
  obtain ⟨gv, c, hv, _, hc⟩ := row_form h.2.1 (by omega)
  refine ⟨gv, c, hv, ?_, hc⟩
  have := World.ownsRow.cells (g := gv) h.2.1 (by rw [hv]; rfl) k (bv s.bs[k]) (by simp [hk])
  have ha : (⟨gv, 0, none⟩ : Addr).add k = ⟨gv, k, none⟩ := by unfold Addr.add; split <;> simp_all
  rwa [ha] at this
/-- An item: its block, the place, what is amiss; and its reader. -/
structure ItS where
  x : Nat
  r : RdS
  at_ : Nat
  e : Int
def ItS.own (s : ItS) : Own := Own.both (Own.blk s.x #[.pointer (some ⟨s.r.g, 0, none⟩), .int .i64 s.at_, .int .i64 s.e] 143) s.r.own
theorem ItS.cells {s : ItS} {w : World} (h : s.own.holds w) : w.cell? ⟨s.x, 0, none⟩ = some (.pointer (some ⟨s.r.g, 0, none⟩)) ∧ w.cell? ⟨s.x, 1, none⟩ = some (.int .i64 s.at_) ∧ w.cell? ⟨s.x, 2, none⟩ = some (.int .i64 s.e) ∧
    w.frozen? ⟨s.x, 1, none⟩ = false ∧ w.frozen? ⟨s.x, 2, none⟩ = false :=
  ⟨Blk.cell h.1 0, Blk.cell h.1 1, Blk.cell h.1 2, Blk.frozen h.1 1, Blk.frozen h.1 2⟩
theorem ItS.setAt {s : ItS} {w : World} (h : s.own.holds w) (k : Nat) (u : Int) (hu : u = k) : Turns w (w.setCell ⟨s.x, 1, none⟩ (.int .i64 u)) s.own ({ s with at_ := k } : ItS).own := by
  subst hu
  have := Turns.bothl h (SetBlk.of_set h.1 1 (.int .i64 k))
  exact this
theorem ItS.setE {s : ItS} {w : World} (h : s.own.holds w) (u : Int) : Turns w (w.setCell ⟨s.x, 2, none⟩ (.int .i64 u)) s.own ({ s with e := u } : ItS).own := by
  have := Turns.bothl h (SetBlk.of_set h.1 2 (.int .i64 u))
  exact this
end Go.Proofs.Ytkpgdonpmfebaaa.Bt
