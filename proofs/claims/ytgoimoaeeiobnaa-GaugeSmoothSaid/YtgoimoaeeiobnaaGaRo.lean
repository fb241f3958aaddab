/- The gauge: what an order does not change; the contracts whole. -/
import Derived.Test.YtgoimoaeeiobnaaGaL7
namespace Go.Proofs.Ytgoimoaeeiobnaa.Ga
open Go.RowKit Go.Hp Go.Fl
set_option linter.unusedSimpArgs false
set_option linter.unusedVariables false
set_option maxRecDepth 100000
theorem ints_len {w : World} {A : Option Addr} {n c : Nat} (h : ArgOk Try.prog w 22 (.slice A n c)) : n * 8 ≤ 140737488355328 := by
  have hu := Try.underlying22
  have hc : Try.prog.cellsOf 3 = 1 := by kernel_rfl
  have hby : Try.prog.bytesOf 3 = 8 := by kernel_rfl
  rcases h.rdg.slice hu (by rw [hc]; decide) with h0 | ⟨a, l, c', hcs, hl, hm, hb, hi⟩
  · simp [Value.cells] at h0
    omega
  · simp [Value.cells] at hcs
    obtain ⟨rfl, rfl, rfl⟩ := hcs
    rw [hby] at hb
    omega
theorem bucketed {l l' : List Int} (h : l'.Perm l) (es : List Int) : barsOf l' es = barsOf l es := by
  unfold barsOf
  simp only [h.countP_eq]
def barsZ (l es : List Int) : List Int := if 4096 < l.length ∨ 4096 < es.length then [] else if Inc es then barsOf l es else []
def barsE (l es : List Int) : Int := if 4096 < l.length ∨ 4096 < es.length then 220 else if Inc es then 0 else 1
def BarsAll (l es : List Int) (w : World) (e : Ending) (w' : World) : Prop := ∃ X cx, e = .returned (.tuple #[.slice X (barsZ l es).length cx, .int .i64 (barsE l es)]) ∧ Chg (fun _ => False) w w' ∧ Sl w' X (barsZ l es)
theorem bars_all (A B : Option Addr) (n m c d : Nat) (l es : List Int) (w : World) (hs : Sl w B es) (hsl : Sl w A l) (hl : es.length = m) (hll : l.length = n) :
    Calls Try.prog 24 #[.slice A n c, .slice B m d] w (BarsAll l es w) := by
  by_cases h1 : 4096 < l.length ∨ 4096 < es.length
  · refine (bars_many A B n m c d w (by omega)).mono ?_
    rintro e w' ⟨rfl, rfl⟩
    unfold BarsAll barsZ barsE
    rw [if_pos h1, if_pos h1]
    exact ⟨none, 0, rfl, Chg.refl _ _, Or.inl rfl⟩
  · by_cases h2 : Inc es
    · refine (bars_ok A B n m c d l es w (by omega) (by omega) hs hsl hl hll h2).mono ?_
      rintro e w' ⟨cc, rfl, ht⟩
      unfold BarsAll barsZ barsE
      rw [if_neg h1, if_neg h1, if_pos h2, if_pos h2]
      have hbl : (barsOf l es).length = es.length + 1 := by unfold barsOf; simp
      refine ⟨some ⟨w.heap.size, 0, none⟩, cc, by rw [hbl], ht.chg, Sl.of_row ht.now⟩
    · refine (bars_arg A B n m c d es w (by omega) (by omega) hs hl h2).mono ?_
      rintro e w' ⟨rfl, hc⟩
      unfold BarsAll barsZ barsE
      rw [if_neg h1, if_neg h1, if_neg h2, if_neg h2]
      exact ⟨none, 0, rfl, hc, Or.inl rfl⟩
theorem barsZ_len (l es : List Int) : (barsZ l es).length ≤ 5000 := by
  unfold barsZ
  split
  · simp
  · split
    · have hbl : (barsOf l es).length = es.length + 1 := by unfold barsOf; simp
      omega
    · simp
theorem barsZ_perm {l l' : List Int} (h : l'.Perm l) (es : List Int) : barsZ l' es = barsZ l es := by
  unfold barsZ; rw [h.length_eq, bucketed h]
theorem barsE_perm {l l' : List Int} (h : l'.Perm l) (es : List Int) : barsE l' es = barsE l es := by
  unfold barsE; rw [h.length_eq]
theorem srt_same {l l' : List Int} (h : l'.Perm l) : srt l' = srt l := by
  refine List.Perm.eq_of_pairwise (le := fun a b : Int => a ≤ b) (fun a b _ _ h1 h2 => Int.le_antisymm h1 h2) (srt_sorted l') (srt_sorted l) ?_
  exact (srt_perm l').trans (h.trans (srt_perm l).symm)
theorem shareOf_perm {l l' : List Int} (h : l'.Perm l) (p : Nat) : shareOf l' p = shareOf l p := by
  unfold shareOf
  rw [srt_same h]
  have : good l' p = good l p := by
    funext x
    unfold good
    rw [h.countP_eq, h.length_eq]
  rw [this]
def shareZ (l : List Int) (p : Nat) : Int := if 4096 < l.length then 0 else if l = [] then 0 else if shareB p = true then shareOf l p else 0
def shareE (l : List Int) (p : Nat) : Int := if 4096 < l.length then 220 else if l = [] then 222 else if shareB p = true then 0 else 221
theorem perm_nil {l l' : List Int} (h : l'.Perm l) : (l' = []) = (l = []) := by
  have := h.length_eq
  cases l <;> cases l' <;> simp_all
theorem shareZ_perm {l l' : List Int} (h : l'.Perm l) (p : Nat) : shareZ l' p = shareZ l p := by
  unfold shareZ; simp only [h.length_eq, shareOf_perm h, perm_nil h]
theorem shareE_perm {l l' : List Int} (h : l'.Perm l) (p : Nat) : shareE l' p = shareE l p := by
  unfold shareE; simp only [h.length_eq, perm_nil h]
theorem share_all (A : Option Addr) (n c : Nat) (l : List Int) (p : Nat) (w : World) (hs : Sl w A l) (hl : l.length = n) :
    Calls Try.prog 21 #[.slice A n c, .float .f64 p] w fun e w' => e = .returned (.tuple #[.int .i64 (shareZ l p), .int .i64 (shareE l p)]) ∧ Chg (fun _ => False) w w' := by
  unfold shareZ shareE
  by_cases h1 : 4096 < l.length
  · rw [if_pos h1, if_pos h1]
    refine (share_many A n c p w (by omega)).mono ?_
    rintro e w' ⟨rfl, rfl⟩
    exact ⟨rfl, Chg.refl _ _⟩
  · rw [if_neg h1, if_neg h1]
    by_cases h2 : l = []
    · rw [if_pos h2, if_pos h2]
      obtain rfl : n = 0 := by subst h2; simpa using hl.symm
      refine (share_none A c p w).mono ?_
      rintro e w' ⟨rfl, rfl⟩
      exact ⟨rfl, Chg.refl _ _⟩
    · rw [if_neg h2, if_neg h2]
      have h3 : 1 ≤ n := by rw [← hl]; cases l with | nil => exact absurd rfl h2 | cons => simp
      by_cases h4 : shareB p = true
      · rw [if_pos h4, if_pos h4]
        obtain ⟨b, off, rfl, _, _⟩ := hs.cells h2
        exact share_ok b off n c l p w hs hl h3 (by omega) h4
      · rw [if_neg h4, if_neg h4]
        refine (share_bad A n c p w h3 (by omega) (by simpa using h4)).mono ?_
        rintro e w' ⟨rfl, rfl⟩
        exact ⟨rfl, Chg.refl _ _⟩
def ofZ (l : List Int) (x : Int) : Int := if 4096 < l.length then 0 else if l = [] then 0 else x
def ofE (l : List Int) : Int := if 4096 < l.length then 220 else if l = [] then 222 else 0
theorem ofZ_perm {l l' : List Int} (h : l'.Perm l) (x : Int) : ofZ l' x = ofZ l x := by
  unfold ofZ; simp only [h.length_eq, perm_nil h]
theorem ofE_perm {l l' : List Int} (h : l'.Perm l) : ofE l' = ofE l := by
  unfold ofE; simp only [h.length_eq, perm_nil h]
theorem min_mem {zs : List Int} (h : zs ≠ []) : Lib.minOf zs ∈ zs := by
  have key : ∀ (ys : List Int) (a : Int), ys.foldl min a = a ∨ ys.foldl min a ∈ ys := by
    intro ys
    induction ys with
    | nil => intro a; simp
    | cons y ys ih =>
      intro a
      simp only [List.foldl_cons, List.mem_cons]
      rcases ih (min a y) with h3 | h3
      · rw [h3]
        rcases Int.le_total a y with h | h
        · left; omega
        · right; left; omega
      · exact Or.inr (Or.inr h3)
  rcases key zs (zs.headD 0) with h1 | h1
  · have : Lib.minOf zs = zs.headD 0 := h1
    rw [this]
    cases zs with
    | nil => exact absurd rfl h
    | cons a ys => exact List.mem_cons_self ..
  · exact h1
theorem ofMin_perm {l l' : List Int} (h : l'.Perm l) : ofZ l' (Lib.minOf l') = ofZ l (Lib.minOf l) := by
  by_cases hn : l = []
  · have : l' = [] := by rw [perm_nil h]; exact hn
    subst hn; subst this; rfl
  · have hn' : l' ≠ [] := fun hc => hn (by rw [← perm_nil h]; exact hc)
    have h1 := min_le (h.mem_iff.2 (min_mem hn))
    have h2 := min_le (h.mem_iff.1 (min_mem hn'))
    rw [ofZ_perm h, show Lib.minOf l' = Lib.minOf l by omega]
theorem ofMax_perm {l l' : List Int} (h : l'.Perm l) : ofZ l' (Lib.maxOf l') = ofZ l (Lib.maxOf l) := by
  by_cases hn : l = []
  · have : l' = [] := by rw [perm_nil h]; exact hn
    subst hn; subst this; rfl
  · have hn' : l' ≠ [] := fun hc => hn (by rw [← perm_nil h]; exact hc)
    have h1 := max_ge (h.mem_iff.2 (max_mem hn))
    have h2 := max_ge (h.mem_iff.1 (max_mem hn'))
    rw [ofZ_perm h, show Lib.maxOf l' = Lib.maxOf l by omega]
theorem of_all (A : Option Addr) (n c : Nat) (l : List Int) (w : World) (hs : Sl w A l) (hi : I64 l) (hl : l.length = n) :
    Calls Try.prog 15 #[.slice A n c] w fun e w' => ∃ f g, e = .returned (.tuple #[.agg #[.int .i64 (ofZ l l.length), .int .i64 (ofZ l (Lib.minOf l)), .int .i64 (ofZ l (Lib.maxOf l)), .float .f64 f, .float .f64 g], .int .i64 (ofE l)]) ∧ Chg (fun _ => False) w w' := by
  unfold ofZ ofE
  by_cases h1 : 4096 < l.length
  · simp only [if_pos h1]
    refine (of_many A n c w (by omega)).mono ?_
    rintro e w' ⟨rfl, hc⟩
    exact ⟨0, 0, rfl, hc⟩
  · simp only [if_neg h1]
    by_cases h2 : l = []
    · simp only [if_pos h2]
      obtain rfl : n = 0 := by subst h2; simpa using hl.symm
      refine (of_none A c w).mono ?_
      rintro e w' ⟨rfl, hc⟩
      exact ⟨0, 0, rfl, hc⟩
    · simp only [if_neg h2]
      have h3 : 1 ≤ n := by rw [← hl]; cases l with | nil => exact absurd rfl h2 | cons => simp
      obtain ⟨b, off, rfl, _, _⟩ := hs.cells h2
      refine (of_ok b off n c l w hs hi hl h3 (by omega)).mono ?_
      rintro e w' ⟨rfl, hc⟩
      rw [hl]
      exact ⟨_, _, rfl, hc⟩
end Go.Proofs.Ytgoimoaeeiobnaa.Ga
