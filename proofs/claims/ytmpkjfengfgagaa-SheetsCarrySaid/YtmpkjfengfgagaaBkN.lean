/- Package sheets: the reference's Same; what was written since, carried over: plainly. -/
import Derived.Test.YtmpkjfengfgagaaBkM
import Derived.Test.YtmpkjfengfgagaaRw
namespace Go.Proofs.Ytmpkjfengfgagaa.Bk
open Go.RowKit Go.Hp
attribute [local go_sem] min2_lean min_two max2_lean max_two
set_option linter.unusedSimpArgs false
set_option linter.unusedVariables false
set_option maxRecDepth 100000
theorem byt_cells {w : World} {A : Option Addr} {n c : Nat} {l : List UInt8} (h : Byt w (.slice A n c) l) (h0 : 0 < l.length) : ∃ b off, A = some ⟨b, off, none⟩ ∧ b < w.heap.size ∧ ∀ j (hj : j < l.length), w.cell? ⟨b, off + j, none⟩ = some (bv l[j]) := by
  rcases h.2 with ⟨c', hv, h9⟩ | ⟨ad, c', hv, hc⟩
  · omega
  · obtain ⟨rfl, -, -⟩ := Value.slice.inj hv
    obtain ⟨b, off, sp⟩ := ad
    have h1 := hc 0 (bv l[0]) (by rw [List.getElem?_map, List.getElem?_eq_getElem h0]; rfl)
    have e0 : (⟨b, off, sp⟩ : Addr).add 0 = ⟨b, off, sp⟩ := by simp [Addr.add]
    rw [e0] at h1
    have hsp : sp = none := by
      cases sp with
      | none => rfl
      | some s =>
        unfold World.cell? at h1
        split at h1 <;> simp at h1
    subst hsp
    refine ⟨b, off, rfl, lt_blk h1, fun j hj => ?_⟩
    have h2 := hc j (bv l[j]) (by rw [List.getElem?_map, List.getElem?_eq_getElem hj]; rfl)
    have e : (⟨b, off, none⟩ : Addr).add j = ⟨b, off + j, none⟩ := by unfold Addr.add; split <;> simp_all
    rwa [e] at h2
theorem bv_ne {x y : UInt8} (h : x ≠ y) : ¬ (x.toNat : Int) = (y.toNat : Int) := fun e => h (UInt8.toNat_inj.1 (by omega))
set_option maxHeartbeats 1000000 in
theorem same_any (A B : Option Addr) (n m c d : Nat) (l1 l2 : List UInt8) (w : World) (hs : Byt w (.slice A n c) l1) (ht : Byt w (.slice B m d) l2) (h1 : l1.length = n) (h2 : l2.length = m) (hn : n ≤ 140737488351232) :
    Calls Try.prog 30 #[.slice A n c, .slice B m d] w fun e w' => e = .returned (.bool (decide (l1 = l2))) ∧ ∃ q, w.drewN q = w' := by
  by_cases hnm : n = m
  · subst hnm
    have HS := Lib.hid hs
    have HT := Lib.hid ht
    have H1 := Lib.hid h1
    have H2 := Lib.hid h2
    clear hs ht h1 h2
    go_enter Try.func30, Try.ntmps30
    go_wp2
    go_loopw [13] (fun x13 wr => ∃ i : Nat, x13 = .int .i64 i ∧ i ≤ n ∧ (∀ j (h1 : j < l1.length) (h2 : j < l2.length), j < i → l1[j] = l2[j]) ∧ ∃ q, w.drewN q = wr) (fun x13 _ => n - (intOf x13).toNat)
    case atStart => exact ⟨0, rfl, Nat.zero_le _, fun j h1 h2 h => absurd h (by omega), 0, rfl⟩
    case round =>
      obtain ⟨i, rfl, hin, hno, q, rfl⟩ := hrel
      have HNO := Lib.hid hno
      clear hno
      by_cases hlt : i < n
      · have hd : decide ((i : Int) < (n : Int)) = true := by simp; omega
        have hd' : decide (i < n) = true := by simp; omega
        have hiz : i < l1.length := by rw [H1.out]; exact hlt
        have hiy : i < l2.length := by rw [H2.out]; exact hlt
        have hi0 : (0 : Int) ≤ (i : Int) := Int.natCast_nonneg _
        have hi1 : (i : Int) < (n : Int) := by omega
        have hwi : IntKind.i64.wrap ((i : Int) + 1) = (i : Int) + 1 := IntWalk.i64_in _ (by omega)
        obtain ⟨b, off, rfl, hb, hc⟩ := byt_cells HS.out (by omega)
        obtain ⟨b', off', rfl, hb', hc'⟩ := byt_cells HT.out (by omega)
        obtain ⟨x, hx⟩ : ∃ x, l1[i] = x := ⟨_, rfl⟩
        obtain ⟨y, hy⟩ : ∃ y, l2[i] = y := ⟨_, rfl⟩
        obtain ⟨xi, hxi⟩ : ∃ z : Int, z = (x.toNat : Int) := ⟨_, rfl⟩
        obtain ⟨yi, hyi⟩ : ∃ z : Int, z = (y.toNat : Int) := ⟨_, rfl⟩
        have c0 : w.cell? ⟨b, off + i, none⟩ = some (.int .u8 xi) := by rw [hc i hiz, hx, hxi]; rfl
        have c1 : w.cell? ⟨b', off' + i, none⟩ = some (.int .u8 yi) := by rw [hc' i hiy, hy, hyi]; rfl
        have c0' : (w.drewN q).cell? ⟨b, off + i, none⟩ = some (.int .u8 xi) := c0
        have c1' : (w.drewN q).cell? ⟨b', off' + i, none⟩ = some (.int .u8 yi) := c1
        have HX := Lib.hid hx
        have HY := Lib.hid hy
        by_cases hxy : x = y
        · have hxy' : xi = yi := by rw [hxi, hyi, hxy]
          have HXY := Lib.hid hxy
          subst hxy'
          have q1 : decide (xi = xi) = true := by simp
          clear hxi hyi hx hy hc hc' hxy
          go_wp2_with fail
          go_quiet (fail)
          go_wp2_with fail
          go_roundw
          case rel =>
            refine ⟨i + 1, by simp, by omega, fun j h1 h2 h => ?_, _, rfl⟩
            rcases Nat.lt_or_ge j i with h3 | h3
            · exact HNO.out j h1 h2 h3
            · obtain rfl : j = i := by omega
              rw [HX.out, HY.out, HXY.out]
          case measure => simp [intOf]; omega
        · have hxy' : ¬ xi = yi := by rw [hxi, hyi]; exact bv_ne hxy
          have q1 : decide (xi = yi) = false := by simpa using hxy'
          have q2 : (xi != yi) = true := by simpa using hxy'
          have h3 : decide (l1 = l2) = false := by
            simp
            intro h
            subst h
            exact hxy (by rw [← HX.out, ← HY.out])
          have H3 := Lib.hid h3
          clear hxi hyi hx hy hc hc' hxy h3
          go_wp2_with fail
          go_quiet (fail)
          go_wp2_with fail
          go_ret
          rw [H3.out]
          exact ⟨rfl, _, (World.drewN_drewN ..).symm⟩
      · have hd : decide ((i : Int) < (n : Int)) = false := by simp; omega
        have hd' : decide (i < n) = false := by simp; omega
        go_wp2_with fail
        go_ret
        have h3 : decide (l1 = l2) = true := by
          simp
          refine List.ext_getElem (by rw [H1.out, H2.out]) fun j h1 h2 => HNO.out j h1 h2 (by have := H1.out; omega)
        rw [h3]
        exact ⟨rfl, _, rfl⟩
  · have h3 : decide (l1 = l2) = false := by simp; intro h; subst h; omega
    have hd : ¬ (n : Int) = (m : Int) := by omega
    have H3 := Lib.hid h3
    clear h1 h2 h3 hs ht
    go_enter Try.func30, Try.ntmps30
    go_wp2
    go_ret
    rw [H3.out]
    exact ⟨rfl, 0, rfl⟩
/-- Two books beside one another. -/
theorem _root_.Go.Hp.Turns.unassoc {w W : World} {O A B X : Hp.Own} (h : Turns w W O (Hp.Own.both (Hp.Own.both A B) X)) : Turns w W O (Hp.Own.both A (Hp.Own.both B X)) :=
  ⟨h.chg, ⟨h.now.1.1, ⟨h.now.1.2.1, h.now.2.1, fun b h1 h2 => h.now.2.2 b (Or.inr h1) h2⟩, fun b h1 h2 => h2.elim (fun h2 => h.now.1.2.2 b h1 h2) (fun h2 => h.now.2.2 b (Or.inl h1) h2)⟩,
    fun b hb => h.near b (hb.elim (fun h1 => Or.inl (Or.inl h1)) (fun h1 => h1.elim (fun h1 => Or.inl (Or.inr h1)) Or.inr))⟩
theorem _root_.Go.Hp.Turns.at01 {w W W' : World} {O A A' B B' X : Hp.Own} (h : Turns w W O (Hp.Own.both A (Hp.Own.both B X))) (t : Turns W W' (Hp.Own.both A B) (Hp.Own.both A' B')) : Turns w W' O (Hp.Own.both A' (Hp.Own.both B' X)) := (h.assoc.at0 t).unassoc
/-- What a list of acts does to a book: those that may be put. -/
def Ab.puts (A : Ab) (p : AcS → Bool) (l : List AcS) : Ab := l.foldl (fun A x => if p x then A.put x.nm x.at_ x.d else A) A
theorem Ab.puts_next (A : Ab) (p : AcS → Bool) (l : List AcS) (x : AcS) : A.puts p (l ++ [x]) = if p x then (A.puts p l).put x.nm x.at_ x.d else A.puts p l := by simp [Ab.puts]
theorem Ab.put_n (A : Ab) (num a : Int) (l : List UInt8) : (A.put num a l).n = A.n := by unfold Ab.put; split <;> rfl
/-- Behind a stamp: each sheet is newer, or as it was. -/
def Since (A B : Ab) (m : Int) : Prop := B.n = A.n ∧ ∀ u, u < A.n → m < B.at_ u ∨ (B.at_ u = A.at_ u ∧ B.db u = A.db u)
theorem Since.rfl' (A : Ab) (m : Int) : Since A A m := ⟨rfl, fun _ _ => Or.inr ⟨rfl, rfl⟩⟩
theorem Since.put {A B : Ab} {m : Int} (h : Since A B m) (num a : Int) (l : List UInt8) (ha : m < a) : Since A (B.put num a l) m := by
  refine ⟨by rw [Ab.put_n]; exact h.1, fun u hu => ?_⟩
  unfold Ab.put
  split
  · show m < (if u = num.toNat then a else B.at_ u) ∨ _
    by_cases e : u = num.toNat
    · rw [if_pos e]; exact Or.inl ha
    · rw [if_neg e]
      rcases h.2 u hu with h | h
      · exact Or.inl h
      · exact Or.inr ⟨(if_neg e).trans h.1, (if_neg e).trans h.2⟩
  · exact h.2 u hu
/-- What is given, as a list of sheets. -/
def Ab.told (A : Ab) (l : List Nat) : List ShA := l.map fun (u : Nat) => ⟨(u : Int), A.at_ u, A.db u⟩
theorem newer_mem {at_ : Nat → Int} {a : Int} {n u : Nat} : u ∈ newer at_ a 0 n ↔ u < n ∧ a < at_ u := by
  unfold newer
  simp only [List.mem_filter, List.mem_map, List.mem_range, Nat.zero_add, decide_eq_true_eq]
  constructor
  · rintro ⟨⟨x, h1, rfl⟩, h2⟩; exact ⟨h1, h2⟩
  · rintro ⟨h1, h2⟩; exact ⟨⟨u, h1, rfl⟩, h2⟩
theorem newer_rise (at_ : Nat → Int) (a : Int) (n : Nat) : (newer at_ a 0 n).Pairwise (· < ·) := by
  unfold newer
  refine List.Pairwise.filter _ ?_
  rw [List.pairwise_map]
  exact List.pairwise_lt_range.imp fun h => by omega
theorem told_ok {S A : Ab} (hn : S.n = A.n) : ∀ (l : List Nat) (last : Int), l.Pairwise (· < ·) → (∀ u ∈ l, last < (u : Int)) → (∀ u ∈ l, u < A.n ∧ (1 ≤ A.at_ u ∧ A.at_ u ≤ 1099511627776) ∧ (A.db u).length ≤ 2304) → S.appE last (A.told l) = 0
  | [], _, _, _, _ => rfl
  | u :: r, last, hp, hl, ha => by
    obtain ⟨h1, h2, h3⟩ := ha u (List.mem_cons_self ..)
    have hp' := List.pairwise_cons.1 hp
    show (if ¬ (0 ≤ (u : Int) ∧ (u : Int) < S.n) then (61 : Int) else if (u : Int) ≤ last then 64 else if ¬ (1 ≤ A.at_ u ∧ A.at_ u ≤ 1099511627776) then 62 else if 2304 < (A.db u).length then 63 else S.appE u (A.told r)) = 0
    rw [if_neg (by rw [Decidable.not_not, hn]; omega), if_neg (by have := hl u (List.mem_cons_self ..); omega), if_neg (Decidable.not_not.2 h2), if_neg (by omega)]
    exact told_ok hn r u hp'.2 (fun v hv => by have := hp'.1 v hv; omega) (fun v hv => ha v (List.mem_cons_of_mem _ hv))
theorem told_sets (A : Ab) : ∀ (l : List Nat) (S : Ab) (u : Nat), ((S.appL (A.told l)).at_ u = if u ∈ l then A.at_ u else S.at_ u) ∧ ((S.appL (A.told l)).db u = if u ∈ l then A.db u else S.db u)
  | [], S, u => by simp [Ab.told, Ab.appL]
  | v :: r, S, u => by
    have h := told_sets A r (S.set v (A.at_ v) (A.db v)) u
    have e : S.appL (A.told (v :: r)) = (S.set v (A.at_ v) (A.db v)).appL (A.told r) := by
      show (S.set (v : Int).toNat (A.at_ v) (A.db v)).appL (A.told r) = _
      rw [Int.toNat_natCast]
    rw [e]
    by_cases hu : u ∈ r
    · simp only [hu, if_pos] at h
      simp only [List.mem_cons, hu, or_true, if_pos]
      exact h
    · simp only [hu, if_neg] at h
      by_cases hv : u = v
      · subst hv
        simp only [List.mem_cons, true_or, if_pos]
        refine ⟨h.1.trans ?_, h.2.trans ?_⟩
        · show (if u = u then A.at_ u else S.at_ u) = _; rw [if_pos rfl]
        · show (if u = u then A.db u else S.db u) = _; rw [if_pos rfl]
      · simp only [List.mem_cons, hu, hv, or_self, if_neg]
        refine ⟨h.1.trans ?_, h.2.trans ?_⟩
        · show (if u = v then A.at_ v else S.at_ u) = _; rw [if_neg hv]; rfl
        · show (if u = v then A.db v else S.db u) = _; rw [if_neg hv]; rfl
/-- P6.8. -/
theorem carry_law {S A : Ab} {m : Int} (h : Since S A m) (hm : ∀ u, u < S.n → S.at_ u ≤ m) (h0 : 0 ≤ m) (ha : ∀ u, A.at_ u ≤ 1099511627776) (hl : ∀ u, (A.db u).length ≤ 2304) :
    S.appE (-1) (A.told (newer A.at_ m 0 A.n)) = 0 ∧ ∀ u, u < A.n → (S.appL (A.told (newer A.at_ m 0 A.n))).at_ u = A.at_ u ∧ (S.appL (A.told (newer A.at_ m 0 A.n))).db u = A.db u := by
  refine ⟨told_ok h.1.symm _ _ (newer_rise _ _ _) (fun u _ => by omega) (fun u hu => ?_), fun u hu => ?_⟩
  · obtain ⟨h1, h2⟩ := newer_mem.1 hu
    exact ⟨h1, ⟨by omega, ha u⟩, hl u⟩
  · obtain ⟨h1, h2⟩ := told_sets A (newer A.at_ m 0 A.n) S u
    rw [h1, h2]
    by_cases hu2 : m < A.at_ u
    · rw [if_pos (newer_mem.2 ⟨hu, hu2⟩), if_pos (newer_mem.2 ⟨hu, hu2⟩)]
      exact ⟨rfl, rfl⟩
    · rw [if_neg (fun h => hu2 (newer_mem.1 h).2), if_neg (fun h => hu2 (newer_mem.1 h).2)]
      rcases h.2 u (by rw [← h.1]; exact hu) with h9 | h9
      · exact absurd h9 hu2
      · exact ⟨h9.1.symm, h9.2.symm⟩
theorem mostF_congr {f g : Nat → Int} {from_ : Nat} : ∀ n, (∀ i, i < n → f (from_ + i) = g (from_ + i)) → mostF f from_ n = mostF g from_ n
  | 0, _ => rfl
  | n + 1, h => by
    show max (mostF f from_ n) (f (from_ + n)) = max (mostF g from_ n) (g (from_ + n))
    rw [mostF_congr n (fun i hi => h i (by omega)), h n (by omega)]
theorem newer_congr {f g : Nat → Int} {a : Int} {n : Nat} (h : ∀ i, i < n → f i = g i) : newer f a 0 n = newer g a 0 n := by
  unfold newer
  refine List.filter_congr fun x hx => ?_
  obtain ⟨i, hi, rfl⟩ := List.mem_map.1 hx
  rw [h (0 + i) (by have := List.mem_range.1 hi; omega)]
theorem mostF_nonneg (f : Nat → Int) (from_ : Nat) : ∀ n, 0 ≤ mostF f from_ n
  | 0 => Int.le_refl _
  | n + 1 => Int.le_trans (mostF_nonneg f from_ n) (Int.le_max_left _ _)
/-- What is given, read as a list of sheets. -/
theorem ShL.of_given {A : Ab} {w W : World} {O X : Hp.Own} {Av : Option Addr} {cv k : Nat} {xs : List (Nat × Value)} (hk : xs.length = k) (h : Turns w W O (Hp.Own.both (Hp.Own.row 46 3 (.slice Av k cv) xs.length (flS A.at_ xs)) (Hp.Own.both (Hp.Own.fam (dtF A.db xs)) X))) :
    ∀ w', Chg X.foot W w' → ShL w' Av (fun i => ((xs[i]?).map (·.2)).getD undef) (A.told (xs.map (·.1))) := fun w' hc i hi => by
  have hi : i < xs.length := by simpa [Ab.told] using hi
  have hel : (A.told (xs.map (·.1)))[i]'(by simpa [Ab.told] using hi) = ⟨(xs[i].1 : Int), A.at_ xs[i].1, A.db xs[i].1⟩ := by simp [Ab.told]
  rw [hel]
  have hrow : W.ownsRow 0 46 3 (.slice Av k cv) k (flS A.at_ xs) := by rw [← hk]; have := h.n0; rw [← hk] at this; exact this
  obtain ⟨g, hg⟩ : ∃ g, Av = some ⟨g, 0, none⟩ := by
    obtain ⟨g, cap, h9, -⟩ := row_form hrow (by omega)
    exact ⟨g, (Value.slice.inj h9).1⟩
  subst hg
  have hfl : flS A.at_ xs = (xs.map fun x => (shC A.at_ x).toList).flatten := by simp [flS, List.flatMap]
  have hcell : ∀ j u, (shC A.at_ xs[i]).toList[j]? = some u → W.cell? ⟨g, i * 3 + j, none⟩ = some u := fun j u hu => by
    refine (row_cell hrow (i * 3 + j) ?_).1
    rw [hfl]
    refine fl_get (s := 3) (fun x hx => ?_) (x := (shC A.at_ xs[i]).toList) ?_ hu
    · obtain ⟨y, _, rfl⟩ := List.mem_map.1 hx
      rfl
    · rw [List.getElem?_map, List.getElem?_eq_getElem hi]
      rfl
  have hgb : g < W.heap.size := row_lt hrow
  have hng : ¬ X.foot g := fun hf => h.now.2.2 g rfl (Or.inr hf)
  have hd : W.ownsRow 0 5 1 xs[i].2 (A.db xs[i].1).length ((A.db xs[i].1).map bv) ∧ ∀ b, xs[i].2.ownBlock = some b → ¬ X.foot b := by
    have h1 := h.n10.1 i
    have e : dtF A.db xs i = Hp.Own.row 5 1 xs[i].2 (A.db xs[i].1).length ((A.db xs[i].1).map bv) := by unfold dtF; rw [List.getElem?_eq_getElem hi]
    rw [e] at h1
    exact ⟨h1, fun b hb hf => h.now.2.1.2.2 b ⟨i, by rw [e]; exact hb⟩ hf⟩
  have hvs : (fun i => ((xs[i]?).map (·.2)).getD undef) i = xs[i].2 := by simp [hi]
  rw [hvs]
  refine ⟨g, 0, rfl, ?_, ?_, ?_, ?_⟩
  · rw [Nat.zero_add]; exact (hc.cell (p := ⟨g, i * 3, none⟩) hgb hng).trans (hcell 0 _ rfl)
  · rw [Nat.zero_add]; exact (hc.cell (p := ⟨g, i * 3 + 1, none⟩) hgb hng).trans (hcell 1 _ rfl)
  · rw [Nat.zero_add]; exact (hc.cell (p := ⟨g, i * 3 + 2, none⟩) hgb hng).trans (hcell 2 _ rfl)
  · exact src_far (Src.of_own hd.1) hc fun q hq => ⟨(World.ownsRow.lt hd.1 q hq).2, hd.2 q hq⟩
end Go.Proofs.Ytmpkjfengfgagaa.Bk
