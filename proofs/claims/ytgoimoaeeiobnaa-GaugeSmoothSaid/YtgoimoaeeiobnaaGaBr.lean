/- The gauge: Bars. -/
import Derived.Test.YtgoimoaeeiobnaaGaOf
namespace Go.Proofs.Ytgoimoaeeiobnaa.Ga
open Go.RowKit Go.Hp Go.Fl
set_option linter.unusedSimpArgs false
set_option linter.unusedVariables false
set_option maxRecDepth 100000
/-- Edges that rise. -/
def Inc (es : List Int) : Prop := ∀ j, j + 1 < es.length → es.getD j 0 < es.getD (j + 1) 0
instance (es : List Int) : Decidable (Inc es) := decidable_of_iff (∀ j < es.length - 1, es.getD j 0 < es.getD (j + 1) 0) ⟨fun h j hj => h j (by omega), fun h j hj => h j (by omega)⟩
theorem Inc.sorted {es : List Int} (h : Inc es) : es.Pairwise (· < ·) := by
  rw [List.pairwise_iff_getElem]
  intro i j hi hj hij
  obtain ⟨d, rfl⟩ : ∃ d, j = i + 1 + d := ⟨j - (i + 1), by omega⟩
  induction d with
  | zero =>
    have := h i (by omega)
    simpa [List.getD, hi, hj] using this
  | succ d ih =>
    have h1 := ih (by omega) (by omega)
    have h2 := h (i + 1 + d) (by omega)
    have h3 : es.getD (i + 1 + d) 0 = es[i + 1 + d] := by simp [List.getD, show i + 1 + d < es.length by omega]
    have h4 : es.getD (i + 1 + d + 1) 0 = es[i + 1 + (d + 1)] := by simp [List.getD, show i + 1 + d + 1 < es.length by omega]; rfl
    omega
/-- In which bar a sample is. -/
def bucket (es : List Int) (x : Int) : Nat := es.countP (· < x) + (if es.contains x then 1 else 0)
theorem bucket_le {es : List Int} (x : Int) (h : es.Pairwise (· < ·)) : bucket es x ≤ es.length := by
  unfold bucket
  induction es with
  | nil => simp
  | cons a l ih =>
    have hl := List.pairwise_cons.1 h
    have ih := ih hl.2
    rw [List.countP_cons, List.length_cons]
    by_cases h1 : a < x
    · have hne : (a == x) = false := by simp; omega
      simp only [List.contains_cons]
      have hxa : (x == a) = false := by simp; omega
      rw [hxa, Bool.false_or]
      have hd : decide (a < x) = true := by simpa using h1
      rw [hd, if_pos rfl]
      omega
    · have h0 : l.countP (· < x) = 0 := by
        rw [List.countP_eq_zero]
        intro b hb
        have := hl.1 b hb
        simp
        omega
      rw [h0]
      simp [h1]
      split <;> omega
def barsOf (l es : List Int) : List Int := (List.range (es.length + 1)).map fun i => (l.countP (fun x => bucket es x == i) : Int)
theorem barsOf_len (l es : List Int) : (barsOf l es).length = es.length + 1 := by unfold barsOf; simp
theorem barsOf_get (l es : List Int) (i : Nat) (h : i < es.length + 1) : (barsOf l es)[i]? = some ((l.countP (fun x => bucket es x == i) : Nat) : Int) := by unfold barsOf; simp [h]
theorem barsOf_snoc (l es : List Int) (x : Int) (h : bucket es x < es.length + 1) : barsOf (l ++ [x]) es = (barsOf l es).set (bucket es x) ((l.countP (fun y => bucket es y == bucket es x) : Int) + 1) := by
  apply List.ext_getElem?
  intro i
  by_cases hi : i < es.length + 1
  · rw [barsOf_get _ _ i hi, List.getElem?_set, barsOf_len]
    rw [List.countP_append]
    by_cases he : bucket es x = i
    · subst he
      rw [if_pos rfl, if_pos hi]
      simp
    · rw [if_neg he, barsOf_get _ _ i hi]
      simp [he]
  · rw [List.getElem?_eq_none (by rw [barsOf_len]; omega), List.getElem?_eq_none (by rw [List.length_set, barsOf_len]; omega)]
theorem bars_many (A B : Option Addr) (n m c d : Nat) (w : World) (h : 4096 < n ∨ 4096 < m) :
    Calls Try.prog 24 #[.slice A n c, .slice B m d] w fun e w' => e = .returned (.tuple #[.slice none 0 0, .int .i64 220]) ∧ w = w' := by
  by_cases h1 : 4096 < n
  · have d1 : decide (4096 < n) = true := by simpa using h1
    have d2 : decide ((4096 : Int) < (n : Int)) = true := by simp; omega
    go_enter Try.func24, Try.ntmps24
    go_wp2
    go_ret2
    exact ⟨rfl, rfl⟩
  · have h2 : 4096 < m := by omega
    have d1 : decide (4096 < n) = false := by simpa using h1
    have d2 : decide ((4096 : Int) < (n : Int)) = false := by simp; omega
    have d3 : decide (4096 < m) = true := by simpa using h2
    have d4 : decide ((4096 : Int) < (m : Int)) = true := by simp; omega
    have q : n ≤ 4096 := by omega
    clear h h1
    go_enter Try.func24, Try.ntmps24
    go_wp2
    go_ret2
    exact ⟨rfl, rfl⟩
def ArgPost (w : World) (e : Ending) (w' : World) : Prop := e = .returned (.tuple #[.slice none 0 0, .int .i64 1]) ∧ Chg (fun _ => False) w w'
theorem Sl.cells {w : World} {A : Option Addr} {zs : List Int} (h : Sl w A zs) (hne : zs ≠ []) : ∃ b off, A = some ⟨b, off, none⟩ ∧ b < w.heap.size ∧ ∀ j, j < zs.length → w.cell? ⟨b, off + j, none⟩ = some (.int .i64 (zs.getD j 0)) := by
  rcases h with h | ⟨b, off, hA, hb, hc⟩
  · exact absurd h hne
  · exact ⟨b, off, hA, hb, fun j hj => by rw [hc j hj]; simp [List.getD, hj]⟩
set_option maxHeartbeats 1000000 in
theorem bars_arg (A B : Option Addr) (n m c d : Nat) (es : List Int) (w : World) (hn : n ≤ 4096) (hm : m ≤ 4096) (hs : Sl w B es) (hl : es.length = m) (hinc : ¬ Inc es) :
    Calls Try.prog 24 #[.slice A n c, .slice B m d] w (ArgPost w) := by
  have d1 : decide (4096 < n) = false := by simp; omega
  have d2 : decide ((4096 : Int) < (n : Int)) = false := by simp; omega
  have d3 : decide (4096 < m) = false := by simp; omega
  have d4 : decide ((4096 : Int) < (m : Int)) = false := by simp; omega
  have hne : es ≠ [] := fun h => hinc (by subst h; intro j hj; simp at hj)
  obtain ⟨b, off, rfl, hb, hc⟩ := hs.cells hne
  have HC := Lib.hid hc
  have HL := Lib.hid hl
  have HI := Lib.hid hinc
  clear hs hc hl hinc hne
  go_enter Try.func24, Try.ntmps24
  go_wp2_with fail
  clear d1 d2 d3 d4
  go_loopw [6] (fun x6 wr => ∃ j k : Nat, x6 = .int .i64 k ∧ k = j + 1 ∧ (∀ i, i < j → i + 1 < es.length → es.getD i 0 < es.getD (i + 1) 0) ∧ ∃ q, w.drewN q = wr) (fun x6 _ => m + 1 - (intOf x6).toNat)
  case atStart => exact ⟨0, 1, rfl, rfl, fun i hi => by omega, 0, rfl⟩
  case round =>
    obtain ⟨j, k, rfl, hk, hj, q, rfl⟩ := hrel
    have HJ := Lib.hid hj
    have HK := Lib.hid hk
    clear hj
    have hjm : k < m := by
      rcases Nat.lt_or_ge k m with h | h
      · exact h
      · exfalso
        exact HI.out fun i hi => HJ.out i (by rw [HL.out] at hi; omega) hi
    have hj2 : j < m := by omega
    have hd : decide ((k : Int) < (m : Int)) = true := by simp; omega
    have hd' : decide (k < m) = true := by simp; omega
    have c0 : (w.drewN q).cell? ⟨b, off + j, none⟩ = some (.int .i64 (es.getD j 0)) := HC.out j (by rw [HL.out]; omega)
    have c1 : (w.drewN q).cell? ⟨b, off + k, none⟩ = some (.int .i64 (es.getD k 0)) := HC.out k (by rw [HL.out]; omega)
    have c2 : w.cell? ⟨b, off + j, none⟩ = some (.int .i64 (es.getD j 0)) := HC.out j (by rw [HL.out]; omega)
    have c3 : w.cell? ⟨b, off + k, none⟩ = some (.int .i64 (es.getD k 0)) := HC.out k (by rw [HL.out]; omega)
    have hw : IntKind.i64.wrap ((k : Int) - 1) = (j : Int) := by rw [IntWalk.i64_in _ (by omega)]; omega
    by_cases hlt : es.getD j 0 < es.getD k 0
    · have HLT := Lib.hid hlt
      have HE := Lib.hid (show ∃ a b, es.getD j 0 = a ∧ es.getD (j + 1) 0 = b ∧ a < b from ⟨_, _, rfl, rfl, by rw [← HK.out]; exact hlt⟩)
      obtain ⟨v, hv⟩ : ∃ v, es.getD k 0 = v := ⟨_, rfl⟩
      obtain ⟨u, hu⟩ : ∃ u, es.getD j 0 = u := ⟨_, rfl⟩
      rw [hu] at c0 c2
      rw [hv] at c1 c3
      rw [hu, hv] at hlt
      clear hu hv HLT
      have q1 : decide (v ≤ u) = false := by simp; omega
      clear hlt hk
      go_wp2_with fail
      go_quiet (fail)
      clear hw
      go_wp2_with fail
      go_roundw
      case rel =>
        refine ⟨k, k + 1, by simp, rfl, fun i hi h => ?_, _, rfl⟩
        rcases Nat.lt_or_ge i j with h1 | h1
        · exact HJ.out i h1 h
        · have : i = j := by have := HK.out; omega
          subst this
          obtain ⟨_, _, rfl, rfl, h3⟩ := HE.out
          exact h3
      case measure => simp [intOf]; omega
    · generalize es.getD k 0 = v at *
      generalize es.getD j 0 = u at *
      have q1 : decide (v ≤ u) = true := by simp; omega
      clear hlt hk
      go_wp2_with fail
      go_quiet (fail)
      go_wp2_with fail
      go_ret2
      exact ⟨rfl, (Chg.refl _ _).drewN q |>.drewN _⟩
theorem search_any (B : Option Addr) (m d : Nat) (es : List Int) (x : Int) (w : World) (hs : Sl w B es) (hl : es.length = m) (hm : m ≤ 4096) (hp : es.Pairwise (· < ·)) :
    Calls Try.prog 47 #[.slice B m d, .int .i64 x] w fun e w' => e = .returned (.tuple #[.int .i64 ((es.countP (· < x) : Nat) : Int), .bool (es.contains x)]) ∧ ∃ q, w.drewN q = w' := by
  by_cases hne : es = []
  · subst hne
    obtain rfl : m = 0 := by simpa using hl.symm
    refine (Try.slices_BinarySearch_int_empty B d x w).mono ?_
    rintro e w' ⟨rfl, rfl⟩
    exact ⟨rfl, 0, rfl⟩
  · obtain ⟨b, off, rfl, hb, hc⟩ := hs.cells hne
    have htk : es.take m = es := List.take_of_length_le (by omega)
    have h := Try.slices_BinarySearch_int b off m d es x w (by omega) (by omega) hc (by rw [htk]; exact hp.imp (fun h => Int.le_of_lt h))
    rw [htk] at h
    refine h.mono ?_
    rintro e w' ⟨rfl, q, rfl⟩
    exact ⟨rfl, q, rfl⟩
theorem row_there {w : World} {g n c : Nat} {E : TypeId} {xs : List Value} (h : w.ownsRow 0 E 1 (.slice (some ⟨g, 0, none⟩) n c) n xs) (j : Nat) (hj : j < n) :
    ∃ u, xs[j]? = some u ∧ w.cell? ⟨g, j, none⟩ = some u ∧ w.frozen? ⟨g, j, none⟩ = false := by
  have hl : j < xs.length := by have := h.1; omega
  refine ⟨xs[j], List.getElem?_eq_getElem hl, ?_, ?_⟩
  · have := World.ownsRow.cells (g := g) h rfl j xs[j] (List.getElem?_eq_getElem hl)
    have ha : (⟨g, 0, none⟩ : Addr).add j = ⟨g, j, none⟩ := by unfold Addr.add; split <;> simp_all
    rwa [ha] at this
  · rcases h.2 with ⟨_, h0⟩ | ⟨g', cap, cur, hv, _, hg, _⟩
    · omega
    · have : g = g' := by have := (Value.slice.inj hv).1; simpa using this
      subst this
      simp [World.frozen?, hg]
theorem made_zero (n : Nat) : (madeCells (Value.int .i64 0).cells (n * 1)).toList = (List.replicate n (0 : Int)).map (Value.int .i64) := by
  rw [show (Value.int IntKind.i64 0).cells = #[Value.int IntKind.i64 0] from rfl, toList_madeCells_one, Nat.mul_one]
  simp
theorem barsOf_nil (es : List Int) : barsOf [] es = List.replicate (es.length + 1) 0 := by
  unfold barsOf
  apply List.ext_getElem
  · simp
  · intro i h1 h2; simp
def BarsPost (l es : List Int) (w : World) (e : Ending) (w' : World) : Prop := ∃ c, e = .returned (.tuple #[.slice (some ⟨w.heap.size, 0, none⟩) (es.length + 1) c, .int .i64 0]) ∧ Turns w w' Own.emp (Own.row 3 1 (.slice (some ⟨w.heap.size, 0, none⟩) (es.length + 1) c) (es.length + 1) ((barsOf l es).map (Value.int .i64)))
set_option maxHeartbeats 2000000 in
theorem bars_ok (A B : Option Addr) (n m c d : Nat) (l es : List Int) (w : World) (hn : n ≤ 4096) (hm : m ≤ 4096) (hs : Sl w B es) (hsl : Sl w A l) (hl : es.length = m) (hll : l.length = n) (hinc : Inc es) :
    Calls Try.prog 24 #[.slice A n c, .slice B m d] w (BarsPost l es w) := by
  have d1 : decide (4096 < n) = false := by simp; omega
  have d2 : decide ((4096 : Int) < (n : Int)) = false := by simp; omega
  have d3 : decide (4096 < m) = false := by simp; omega
  have d4 : decide ((4096 : Int) < (m : Int)) = false := by simp; omega
  have HS := Lib.hid hs
  have HSL := Lib.hid hsl
  have HL := Lib.hid hl
  have HLL := Lib.hid hll
  have HI := Lib.hid hinc
  obtain ⟨M, hM⟩ : ∃ M, M = m + 1 := ⟨_, rfl⟩
  have HM := Lib.hid hM
  have hwM : IntKind.i64.wrap ((m : Int) + 1) = (M : Int) := by rw [IntWalk.i64_in _ (by omega)]; omega
  have hMb : M ≤ 4097 := by omega
  obtain ⟨ij, hij, hzaj, hzbj, hzcj⟩ := info_parts Try.info3
  clear hs hsl hl hll hinc hM
  go_enter Try.func24, Try.ntmps24
  go_wp2_with fail
  clear d1 d2 d3 d4
  go_loopw [6] (fun x6 wr => ∃ j k : Nat, x6 = .int .i64 k ∧ k = j + 1 ∧ ∃ q, w.drewN q = wr) (fun x6 _ => m + 1 - (intOf x6).toNat)
  case atStart => exact ⟨0, 1, rfl, rfl, 0, rfl⟩
  case round =>
    obtain ⟨j, k, rfl, hk, q, rfl⟩ := hrel
    have HK := Lib.hid hk
    by_cases hjm : k < m
    · have hne : es ≠ [] := fun h => by have := HL.out; subst h; simp at this; omega
      obtain ⟨b, off, rfl, hb, hc⟩ := HS.out.cells hne
      have hj2 : j < m := by omega
      have hd : decide ((k : Int) < (m : Int)) = true := by simp; omega
      have hd' : decide (k < m) = true := by simp; omega
      have c0 : (w.drewN q).cell? ⟨b, off + j, none⟩ = some (.int .i64 (es.getD j 0)) := hc j (by rw [HL.out]; omega)
      have c1 : (w.drewN q).cell? ⟨b, off + k, none⟩ = some (.int .i64 (es.getD k 0)) := hc k (by rw [HL.out]; omega)
      have c2 : w.cell? ⟨b, off + j, none⟩ = some (.int .i64 (es.getD j 0)) := hc j (by rw [HL.out]; omega)
      have c3 : w.cell? ⟨b, off + k, none⟩ = some (.int .i64 (es.getD k 0)) := hc k (by rw [HL.out]; omega)
      have hw : IntKind.i64.wrap ((k : Int) - 1) = (j : Int) := by rw [IntWalk.i64_in _ (by omega)]; omega
      have hlt : es.getD j 0 < es.getD k 0 := by rw [HK.out]; exact HI.out j (by rw [HL.out]; omega)
      clear hc hne
      obtain ⟨v, hv⟩ : ∃ v, es.getD k 0 = v := ⟨_, rfl⟩
      obtain ⟨u, hu⟩ : ∃ u, es.getD j 0 = u := ⟨_, rfl⟩
      rw [hu] at c0 c2
      rw [hv] at c1 c3
      rw [hu, hv] at hlt
      clear hu hv
      have q1 : decide (v ≤ u) = false := by simp; omega
      clear hlt hk hwM
      go_wp2_with fail
      go_quiet (fail)
      clear hw
      go_wp2_with fail
      go_roundw
      case rel => exact ⟨k, k + 1, by simp, rfl, _, rfl⟩
      case measure => simp [intOf]; omega
    · have hd : decide ((k : Int) < (m : Int)) = false := by simp; omega
      have hd' : decide (k < m) = false := by simp; omega
      clear hk hjm
      go_wp2_with (at_make; refine wpList_makeT _ rfl _ _ 22 rfl 3 ij (.int .i64 0) 1 Try.underlying22 hij hzaj hzbj .i64 .i64 M M M rfl rfl rfl rfl (by rw [hzcj]; omega) (by simp only [maxLen]; omega) ?_; intro w1 ht1; have HT1 := Lib.hid ht1; clear ht1)
      have HR : Hid (Turns w w1 Own.emp (Own.row 3 1 (.slice (some ⟨w.heap.size, 0, none⟩) M M) M ((barsOf (l.take 0) es).map (Value.int .i64)))) := by
        have h := (HT1.out).drewNl
        rw [made_zero] at h
        show Turns _ _ _ _
        rw [List.take_zero, barsOf_nil, HL.out, ← HM.out]
        exact h
      have HBK := Lib.hid (fun x => bucket_le x HI.out.sorted)
      clear HT1 hwM
      go_loopw [42] (fun x42 wr => ∃ i : Nat, x42 = .int .i64 i ∧ i ≤ n ∧ Turns w wr Own.emp (Own.row 3 1 (.slice (some ⟨w.heap.size, 0, none⟩) M M) M ((barsOf (l.take i) es).map (Value.int .i64)))) (fun x42 _ => n - (intOf x42).toNat)
      case atStart => exact ⟨0, rfl, Nat.zero_le _, HR.out⟩
      case round =>
        obtain ⟨i, rfl, hin, ht⟩ := hrel
        have HT := Lib.hid ht
        clear ht
        by_cases hlt : i < n
        · have hd2 : decide (i < n) = true := by simpa using hlt
          have hil : i < l.length := by rw [HLL.out]; exact hlt
          obtain ⟨ab, ao, rfl, hab, hac⟩ := (HSL.out.keep HT.out.chg).cells (fun h => by subst h; simp at hil)
          have hca := hac i hil
          have hx : l.getD i 0 = l[i] := by simp [List.getD, hil]
          rw [hx] at hca
          have htk : l.take (i + 1) = l.take i ++ [l[i]] := by rw [List.take_add_one, List.getElem?_eq_getElem hil]; rfl
          have HTK := Lib.hid htk
          clear hac hx htk
          generalize l[i] = x at *
          have hbk := HBK.out x
          have hbm : bucket es x < M := by have := HM.out; have := HL.out; omega
          obtain ⟨vv, hg1, hg2, hg3⟩ := row_there HT.out.now (bucket es x) hbm
          rw [List.getElem?_map, barsOf_get _ _ _ (by have := HM.out; have := HL.out; omega)] at hg1
          simp at hg1
          subst hg1
          have hcnt : (l.take i).countP (fun y => bucket es y == bucket es x) ≤ 4096 := by
            have h1 := List.countP_le_length (p := fun y => bucket es y == bucket es x) (l := l.take i)
            have h2 := List.length_take_le i l
            omega
          obtain ⟨v, hv⟩ : ∃ v : Nat, (l.take i).countP (fun y => bucket es y == bucket es x) = v := ⟨_, rfl⟩
          have HV := Lib.hid hv
          rw [hv] at hg2 hcnt
          have hset := barsOf_snoc (l.take i) es x (by have := HM.out; have := HL.out; omega)
          rw [← HTK.out, hv] at hset
          have HSET := Lib.hid hset
          have hww : IntKind.i64.wrap ((v : Int) + 1) = (v : Int) + 1 := IntWalk.i64_in _ (by omega)
          have HSR := Lib.hid (fun W h => search_any B m d es x W h HL.out hm HI.out.sorted)
          obtain ⟨p, hp⟩ : ∃ p, es.countP (· < x) = p := ⟨_, rfl⟩
          obtain ⟨cb, hcb⟩ : ∃ cb, es.contains x = cb := ⟨_, rfl⟩
          have hbp : bucket es x = p + (if cb then 1 else 0) := by unfold bucket; rw [hp, hcb]
          rw [hp, hcb] at HSR
          have HBP := Lib.hid hbp
          rw [hbp] at hg2 hg3 hbm
          clear hset hv hp hcb hbp hbk
          have HG := Lib.hid hbm
          have HSLw := Lib.hid (HS.out.keep HT.out.chg)
          cases cb
          · simp only [Bool.false_eq_true, if_false, Nat.add_zero] at hg2 hg3 hbm
            have hpM : p < M := hbm
            go_wp2_with (go_at_call 47; (with_reducible refine (HSR.out _ HSLw.out).mono ?_); rintro r w5 ⟨rfl, q2, rfl⟩)
            go_roundw
            case rel =>
              refine ⟨i + 1, by simp, by omega, ?_⟩
              have h2 := (HT.out.drewN q2).trans (Turns.row_set (HT.out.drewN q2).now p (.int .i64 ((v : Int) + 1)))
              rw [HSET.out, List.map_set, HBP.out]
              exact h2
            case measure => simp [intOf]; omega
          · simp only [if_true] at hg2 hg3 hbm
            have hpM : p + 1 < M := hbm
            go_wp2_with (go_at_call 47; (with_reducible refine (HSR.out _ HSLw.out).mono ?_); rintro r w5 ⟨rfl, q2, rfl⟩)
            go_roundw
            case rel =>
              refine ⟨i + 1, by simp, by omega, ?_⟩
              have h2 := (HT.out.drewN q2).trans (Turns.row_set (HT.out.drewN q2).now (p + 1) (.int .i64 ((v : Int) + 1)))
              rw [HSET.out, List.map_set, HBP.out]
              exact h2
            case measure => simp [intOf]; omega
        · have hd2 : decide (i < n) = false := by simpa using hlt
          obtain rfl : i = n := by omega
          have htk : l.take i = l := List.take_of_length_le (by rw [HLL.out]; exact Nat.le_refl _)
          rw [htk] at HT
          go_wp2_with fail
          go_ret2
          unfold BarsPost
          rw [HL.out, ← HM.out]
          exact ⟨M, rfl, HT.out⟩
end Go.Proofs.Ytgoimoaeeiobnaa.Ga
