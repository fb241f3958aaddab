/- A sorted copy of a slice of numbers. -/
import Derived.Test.YtgoimoaeeiobnaaGaIv
import Derived.Test.YtgoimoaeeiobnaaShf
import Derived.Test.YtgoimoaeeiobnaaAp
import Derived.Sort.OwnSortedInts
import Derived.Lib.Hide
namespace Go.Proofs.Ytgoimoaeeiobnaa.Ga
open Go.RowKit Go.Hp Go.Sort
set_option linter.unusedSimpArgs false
set_option linter.unusedVariables false
set_option maxRecDepth 100000

/-- A slice of numbers as it lies in memory. -/
def Sl (w : World) (A : Option Addr) (zs : List Int) : Prop := zs = [] ∨ ∃ b off, A = some ⟨b, off, none⟩ ∧ b < w.heap.size ∧ ∀ j (h : j < zs.length), w.cell? ⟨b, off + j, none⟩ = some (.int .i64 zs[j])
theorem Sl.keep {w w' : World} {A : Option Addr} {zs : List Int} (h : Sl w A zs) (hc : Chg (fun _ => False) w w') : Sl w' A zs := by
  rcases h with h | ⟨b, off, hA, hb, hcell⟩
  · exact Or.inl h
  · exact Or.inr ⟨b, off, hA, Nat.lt_of_lt_of_le hb hc.size, fun j hj => (hc.cell (p := ⟨b, off + j, none⟩) hb (fun h => h)).trans (hcell j hj)⟩
theorem Sl.of_row {w : World} {A : Option Addr} {n c : Nat} {zs : List Int} (h : w.ownsRow 0 3 1 (.slice A n c) n (zs.map (Value.int .i64))) : Sl w A zs := by
  rcases Nat.eq_zero_or_pos n with h0 | h0
  · left
    have := h.1
    simp at this
    exact List.eq_nil_of_length_eq_zero (by omega)
  · obtain ⟨g, cap, hv, hg, _⟩ := row_form h h0
    obtain ⟨rfl, _, rfl⟩ : A = some ⟨g, 0, none⟩ ∧ n = n ∧ c = cap := by simpa using hv
    refine Or.inr ⟨g, 0, rfl, hg, fun j hj => ?_⟩
    have := World.ownsRow.cells (g := g) h rfl j (.int .i64 zs[j]) (by simp [hj])
    have ha : (⟨g, 0, none⟩ : Addr).add j = ⟨g, 0 + j, none⟩ := by unfold Addr.add; split <;> simp_all
    rwa [ha] at this
def srt (zs : List Int) : List Int := zs.mergeSort fun x y => decide (x ≤ y)
theorem srt_len (zs : List Int) : (srt zs).length = zs.length := by unfold srt; simp
theorem values_any (A : Option Addr) (n c : Nat) (w : World) :
    Calls Try.prog 44 #[.slice A n c] w fun e w' => e = .returned (.func (.func 57) #[] #[.pointer (some ⟨w.heap.size, 0, none⟩)]) ∧ w' = w.alloc (.cells #[.slice A n c] 22) := by
  have hmf : ∀ (fn : Fn) (first cap : Array Value) (w : World), (Instr.makeFunc fn first cap).run Try.prog w = .ok (.func fn first cap) w := fun _ _ _ _ => rfl
  go_enter Try.func44, Try.ntmps44
  go_wp2
  go_ret
  exact ⟨rfl, rfl⟩
theorem collect_any (A : Option Addr) (c Bs : Nat) (zs : List Int) (w : World) (hl : zs.length ≤ 4096) (hs : Sl w A zs) (hne : zs ≠ []) (hB : w.cell? ⟨Bs, 0, none⟩ = some (.slice A zs.length c)) (hBs : Bs < w.heap.size) :
    Calls Try.prog 55 #[.func (.func 57) #[] #[.pointer (some ⟨Bs, 0, none⟩)]] w fun e w' => ∃ g cap, e = .returned (.slice (some ⟨g, 0, none⟩) zs.length cap) ∧
      Turns w w' Own.emp (Own.row 3 1 (.slice (some ⟨g, 0, none⟩) zs.length cap) zs.length (zs.map (Value.int .i64))) := by
  have hI : Ints w.heap.size w (.slice A zs.length c) zs := by
    rcases hs with h | ⟨b, off, rfl, hb, hcell⟩
    · exact absurd h hne
    · exact .inr ⟨b, off, c, rfl, hb, fun j hj => by rw [hcell j hj]; simp [hj]⟩
  have HA := Lib.hid (callsIn_wide.1 (append_in Fence.wide 3 trivial trivial rfl (by omega) Bs w.heap.size (.slice A zs.length c) zs (by unfold maxLen; omega) (by omega) w hBs (Nat.le_refl _) hB hI))
  have hlen : 1 ≤ zs.length := by cases zs with | nil => exact absurd rfl hne | cons a l => simp
  have HN := Lib.hid hlen
  clear hI hs hne hlen
  go_enter Try.func55, Try.ntmps55
  go_wp2_with (go_at_call 60; (with_reducible refine HA.out.mono ?_); rintro r w1 ⟨v, rfl, ho, _, hb⟩; have ho2 : w1.ownsRow 0 3 1 v zs.length (zs.map (Value.int .i64)) := (by
    refine ⟨ho.1, ?_⟩
    rcases ho.2 with h | ⟨g, cap, cur, h1, _, h3⟩
    · exact Or.inl h
    · exact Or.inr ⟨g, cap, cur, h1, Nat.zero_le _, h3⟩); have hnw : ∀ b, v.ownBlock = some b → w.heap.size ≤ b := (fun b hb => (ho.lt b hb).1); have HO := Lib.hid ho2; have HB := Lib.hid hb; have HW := Lib.hid hnw; clear ho ho2 hb hnw)
  go_ret
  obtain ⟨g, cap, hv, _, _⟩ := row_form HO.out HN.out
  subst hv
  exact ⟨g, cap, rfl, Chg.of_below HB.out _, HO.out, fun b hb => Or.inr (HW.out b hb)⟩
theorem sorted_any (A : Option Addr) (c Bs : Nat) (zs : List Int) (w : World) (hl : zs.length ≤ 4096) (hs : Sl w A zs) (hne : zs ≠ []) (hB : w.cell? ⟨Bs, 0, none⟩ = some (.slice A zs.length c)) (hBs : Bs < w.heap.size) :
    Calls Try.prog 43 #[.func (.func 57) #[] #[.pointer (some ⟨Bs, 0, none⟩)]] w fun e w' => ∃ g cap, e = .returned (.slice (some ⟨g, 0, none⟩) zs.length cap) ∧
      Turns w w' Own.emp (Own.row 3 1 (.slice (some ⟨g, 0, none⟩) zs.length cap) zs.length ((srt zs).map (Value.int .i64))) := by
  have HC := Lib.hid (collect_any A c Bs zs w hl hs hne hB hBs)
  clear hs hne hB hBs
  go_enter Try.func43, Try.ntmps43
  go_wp2_with (first
    | (go_at_call 55; (with_reducible refine HC.out.mono ?_); rintro r w1 ⟨g, cap, rfl, ht⟩; have HT := Lib.hid ht; obtain ⟨_, ⟨h0, _⟩ | ⟨g', cap', cur, hv, _, hg, hn, hm, hcs, htk⟩⟩ := ht.now
       · cases h0
       obtain ⟨rfl, rfl⟩ : g = g' ∧ cap = cap' := (by simpa using hv); have HG := Lib.hid hg; have HR := Lib.hid (show zs.length ≤ cap ∧ cap ≤ maxLen ∧ cur.size = cap * 1 from ⟨hn, hm, hcs⟩); have HH := Lib.hid (holds_of_blockI hg (by simpa using htk)); have hgl : g < w1.heap.size := (Blk.lt (w := w1) (b := g) hg); clear hv hn hm hcs htk hg ht)
    | (go_at_call 56; have hq9 := Try.slices_Sort_int g 0 cap zs w1 HH.out hgl (by omega); (with_reducible refine hq9.mono ?_); clear hq9; rintro r w2 ⟨rfl, nd, os, rfl⟩))
  go_ret
  refine ⟨g, cap, rfl, HT.out.trans (Turns.row ?_ (grownBy_sortedI _) (Or.inl rfl))⟩
  exact ownsRow_sortedI (by simp [srt]) (Nat.zero_le _) HG.out HR.out.1 HR.out.2.1 HR.out.2.2
end Go.Proofs.Ytgoimoaeeiobnaa.Ga
