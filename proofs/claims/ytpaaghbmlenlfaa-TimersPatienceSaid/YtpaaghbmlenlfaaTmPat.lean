/- TimersPatience walked: a script on backoffs, of the program and of the document, clones among them. -/
import Derived.Test.YtpaaghbmlenlfaaProg
import Derived.Test.YtpaaghbmlenlfaaSp
import Derived.Test.YtpaaghbmlenlfaaArg
import Derived.Test.YtpaaghbmlenlfaaTmBack
import Derived.WalkKit
import Derived.ProofKit
import Derived.BigQuiet
import Derived.Deep.QuietTactic
import Derived.Deep.RegionWith
import Derived.Deep.RegionHeld3
import Derived.StillTailTactics
import Derived.Lib.Hide
namespace Go.Proofs.Ytpaaghbmlenlfaa.Tm
open Go.RowKit Go.Hp
set_option linter.unusedSimpArgs false
set_option linter.unusedVariables false

structure Bk where
  p : Nat
  q : Nat
  n : Int
  m : Int
abbrev Ptr (p : Nat) : Value := .pointer (some ⟨p, 0, none⟩)
inductive Ix where
  | va
  | vb
  | p (i : Nat)
  | q (i : Nat)
  deriving DecidableEq
def fam (base most : Int) (va vb : Value) (L : List Bk) : Ix → Own
  | .va => Own.row 23 1 va L.length (L.map fun x => Ptr x.p)
  | .vb => Own.row 30 1 vb L.length (L.map fun x => Ptr x.q)
  | .p i => match L[i]? with | some x => Own.blk x.p #[.int .i64 base, .int .i64 most, .int .i64 x.n] 82 | none => Own.emp
  | .q i => match L[i]? with | some x => Own.blk x.q #[.int .i64 base, .int .i64 most, .int .i64 x.m] 39 | none => Own.emp

theorem fam_p {base most : Int} {va vb : Value} {L : List Bk} {k : Nat} {x : Bk} (h : L[k]? = some x) (y : Bk) (hq : y.q = x.q) (hm : y.m = x.m) (hp : y.p = x.p) :
    upd (fam base most va vb L) (.p k) (Own.blk y.p #[.int .i64 base, .int .i64 most, .int .i64 y.n] 82) = fam base most va vb (L.set k y) := by
  have hk : k < L.length := (List.getElem?_eq_some_iff.1 h).1
  have hx : L[k] = x := (List.getElem?_eq_some_iff.1 h).2
  funext i
  cases i with
  | va =>
    simp only [upd, fam, List.length_set, reduceCtorEq, if_false]
    congr 1
    apply List.ext_getElem?
    intro i
    by_cases e : i = k
    · subst e; simp [hp, hk, hx]
    · simp [List.getElem?_set, Ne.symm e]
  | vb =>
    simp only [upd, fam, List.length_set, reduceCtorEq, if_false]
    congr 1
    apply List.ext_getElem?
    intro i
    by_cases e : i = k
    · subst e; simp [hq, hk, hx]
    · simp [List.getElem?_set, Ne.symm e]
  | p i =>
    by_cases e : i = k
    · subst e; simp [upd, fam, hk]
    · simp [upd, fam, e, List.getElem?_set, Ne.symm e]
  | q i =>
    by_cases e : i = k
    · subst e; simp [upd, fam, hk, hx, hq, hm]
    · simp [upd, fam, List.getElem?_set, Ne.symm e]

theorem fam_q {base most : Int} {va vb : Value} {L : List Bk} {k : Nat} {x : Bk} (h : L[k]? = some x) (y : Bk) (hp : y.p = x.p) (hn : y.n = x.n) (hq : y.q = x.q) :
    upd (fam base most va vb L) (.q k) (Own.blk y.q #[.int .i64 base, .int .i64 most, .int .i64 y.m] 39) = fam base most va vb (L.set k y) := by
  have hk : k < L.length := (List.getElem?_eq_some_iff.1 h).1
  have hx : L[k] = x := (List.getElem?_eq_some_iff.1 h).2
  funext i
  cases i with
  | va =>
    simp only [upd, fam, List.length_set, reduceCtorEq, if_false]
    congr 1
    apply List.ext_getElem?
    intro i
    by_cases e : i = k
    · subst e; simp [hp, hk, hx]
    · simp [List.getElem?_set, Ne.symm e]
  | vb =>
    simp only [upd, fam, List.length_set, reduceCtorEq, if_false]
    congr 1
    apply List.ext_getElem?
    intro i
    by_cases e : i = k
    · subst e; simp [hq, hk, hx]
    · simp [List.getElem?_set, Ne.symm e]
  | q i =>
    by_cases e : i = k
    · subst e; simp [upd, fam, hk]
    · simp [upd, fam, e, List.getElem?_set, Ne.symm e]
  | p i =>
    by_cases e : i = k
    · subst e; simp [upd, fam, hk, hx, hp, hn]
    · simp [upd, fam, List.getElem?_set, Ne.symm e]
/-- What a walk needs of the k-th. -/
theorem fam_at {w0 w : World} {base most : Int} {va vb : Value} {L : List Bk} (h : Sep w0 w (fam base most va vb L)) {k : Nat} {x : Bk} (hx : L[k]? = some x) :
    Blk w x.p #[.int .i64 base, .int .i64 most, .int .i64 x.n] 82 ∧ Blk w x.q #[.int .i64 base, .int .i64 most, .int .i64 x.m] 39 ∧ x.p ≠ x.q := by
  have hp := h.all (.p k)
  have hq := h.all (.q k)
  simp only [fam, hx] at hp hq
  refine ⟨hp, hq, fun e => ?_⟩
  have := h.apart (.p k) (.q k) x.p (by simp only [fam, hx]; exact rfl) (by simp only [fam, hx]; exact e)
  cases this
theorem row_ptr {w : World} {E : TypeId} {v : Value} {L : List Bk} {f : Bk → Nat} (h : w.ownsRow 0 E 1 v L.length (L.map fun x => Ptr (f x))) (hL : 1 ≤ L.length) :
    ∃ g cap, v = .slice (some ⟨g, 0, none⟩) L.length cap ∧ g < w.heap.size ∧ v.ownBlock = some g ∧ ∀ k x, L[k]? = some x → w.cell? ⟨g, k, none⟩ = some (Ptr (f x)) ∧ w.frozen? ⟨g, k, none⟩ = false := by
  obtain ⟨g, cap, rfl, hlt, _⟩ := row_form h hL
  refine ⟨g, cap, rfl, hlt, rfl, fun k x hx => ⟨?_, h.frozenAt k⟩⟩
  rw [h.cellAt k (by have := (List.getElem?_eq_some_iff.1 hx).1; omega)]
  simp [hx]
theorem row_at {w : World} {E : TypeId} {L : List Bk} {f : Bk → Nat} {g n cap k : Nat} {x : Bk} (h : w.ownsRow 0 E 1 (.slice (some ⟨g, 0, none⟩) n cap) n (L.map fun x => Ptr (f x))) (hx : L[k]? = some x) :
    w.cell? ⟨g, k, none⟩ = some (Ptr (f x)) ∧ w.frozen? ⟨g, k, none⟩ = false := by
  refine ⟨?_, h.frozenAt k⟩
  have hl := h.1
  rw [h.cellAt k (by have := (List.getElem?_eq_some_iff.1 hx).1; rw [List.length_map] at hl; omega)]
  simp [hx]
theorem Try.info23 : (Try.prog.info? 23).map (fun i => (i.zero, i.size, i.bytes)) = some (some (.pointer none), 1, 8) := by kernel_rfl
theorem Try.info30 : (Try.prog.info? 30).map (fun i => (i.zero, i.size, i.bytes)) = some (some (.pointer none), 1, 8) := by kernel_rfl
theorem fam_start (w : World) (base most : Int) :
    Sep w ((((w.alloc (.cells #[.int .i64 base, .int .i64 most, .int .i64 base] 82)).alloc (.cells #[.int .i64 base, .int .i64 most, .int .i64 base] 39)).alloc (.cells #[Ptr w.heap.size] 23)).alloc (.cells #[Ptr (w.heap.size + 1)] 30))
      (fam base most (.slice (some ⟨w.heap.size + 1 + 1, 0, none⟩) 1 1) (.slice (some ⟨w.heap.size + 1 + 1 + 1, 0, none⟩) 1 1) [⟨w.heap.size, w.heap.size + 1, base, base⟩]) := by
  have h1 := (Sep.start (ι := Ix) w).turn (.p 0) (Turns.new _ #[.int .i64 base, .int .i64 most, .int .i64 base] 82)
  have h2 := h1.turn (.q 0) (Turns.new _ #[.int .i64 base, .int .i64 most, .int .i64 base] 39)
  have h3 := h2.turn .va (Turns.row_lit _ _ #[Ptr w.heap.size] 23 1 1 (by decide) rfl)
  have h4 := h3.turn .vb (Turns.row_lit _ _ #[Ptr (w.heap.size + 1)] 30 1 1 (by decide) rfl)
  simp only [World.size_alloc] at h4
  refine h4.as fun i => ?_
  cases i with
  | va => rfl
  | vb => rfl
  | p i => cases i with
    | zero => rfl
    | succ i => simp only [upd, reduceCtorEq, if_false, Ix.p.injEq, Nat.add_eq_zero_iff, Nat.one_ne_zero, and_false, fam, List.getElem?_cons_succ, List.getElem?_nil]
  | q i => cases i with
    | zero => rfl
    | succ i => simp only [upd, reduceCtorEq, if_false, Ix.q.injEq, Nat.add_eq_zero_iff, Nat.one_ne_zero, and_false, fam, List.getElem?_cons_succ, List.getElem?_nil]
theorem fam_pq {w W w1 w2 : World} {base most : Int} {va vb : Value} {L : List Bk} {i : Nat} {x : Bk} {n m : Int} (h : Sep w W (fam base most va vb L)) (hx : L[i]? = some x)
    (h1 : SetBlk W w1 x.p #[.int .i64 base, .int .i64 most, .int .i64 n] 82) (h2 : SetBlk w1 w2 x.q #[.int .i64 base, .int .i64 most, .int .i64 m] 39) :
    Sep w w2 (fam base most va vb (L.set i ⟨x.p, x.q, n, m⟩)) := by
  have hi := (List.getElem?_eq_some_iff.1 hx).1
  have s1 := h.turn (.p i) (O' := Own.blk x.p #[.int .i64 base, .int .i64 most, .int .i64 n] 82) (by simp only [fam, hx]; exact Turns.of_setBlk h1)
  rw [fam_p hx ⟨x.p, x.q, n, x.m⟩ rfl rfl rfl] at s1
  have hx' : (L.set i ⟨x.p, x.q, n, x.m⟩)[i]? = some ⟨x.p, x.q, n, x.m⟩ := by simp [hi]
  have s2 := s1.turn (.q i) (O' := Own.blk x.q #[.int .i64 base, .int .i64 most, .int .i64 m] 39) (by simp only [fam, hx']; exact Turns.of_setBlk h2)
  rw [fam_q hx' ⟨x.p, x.q, n, m⟩ rfl rfl rfl, List.set_set] at s2
  exact s2
theorem fam_qp {w W w1 w2 : World} {base most : Int} {va vb : Value} {L : List Bk} {i : Nat} {x : Bk} {n m : Int} (h : Sep w W (fam base most va vb L)) (hx : L[i]? = some x)
    (h2 : SetBlk W w1 x.q #[.int .i64 base, .int .i64 most, .int .i64 m] 39) (h1 : SetBlk w1 w2 x.p #[.int .i64 base, .int .i64 most, .int .i64 n] 82) :
    Sep w w2 (fam base most va vb (L.set i ⟨x.p, x.q, n, m⟩)) := by
  have hi := (List.getElem?_eq_some_iff.1 hx).1
  have s1 := h.turn (.q i) (O' := Own.blk x.q #[.int .i64 base, .int .i64 most, .int .i64 m] 39) (by simp only [fam, hx]; exact Turns.of_setBlk h2)
  rw [fam_q hx ⟨x.p, x.q, x.n, m⟩ rfl rfl rfl] at s1
  have hx' : (L.set i ⟨x.p, x.q, x.n, m⟩)[i]? = some ⟨x.p, x.q, x.n, m⟩ := by simp [hi]
  have s2 := s1.turn (.p i) (O' := Own.blk x.p #[.int .i64 base, .int .i64 most, .int .i64 n] 82) (by simp only [fam, hx']; exact Turns.of_setBlk h1)
  rw [fam_p hx' ⟨x.p, x.q, n, m⟩ rfl rfl rfl, List.set_set] at s2
  exact s2
theorem all_set {L : List Bk} {p : Bk → Prop} (h : ∀ x ∈ L, p x) (i : Nat) {y : Bk} (hy : p y) : ∀ x ∈ L.set i y, p x := by
  intro x hx
  rcases List.mem_or_eq_of_mem_set hx with h1 | h1
  · exact h x h1
  · exact h1 ▸ hy
theorem fam_push {base most : Int} {va vb v1 v2 : Value} {L : List Bk} {c d : Nat} {n m : Int} (i : Ix) :
    upd (upd (upd (upd (fam base most va vb L) (.p L.length) (Own.blk c #[.int .i64 base, .int .i64 most, .int .i64 n] 82)) (.q L.length) (Own.blk d #[.int .i64 base, .int .i64 most, .int .i64 m] 39))
      .va (Own.row 23 1 v1 (L.length + 1) ((L.map fun x => Ptr x.p) ++ [Ptr c]))) .vb (Own.row 30 1 v2 (L.length + 1) ((L.map fun x => Ptr x.q) ++ [Ptr d])) i = fam base most v1 v2 (L ++ [⟨c, d, n, m⟩]) i := by
  cases i with
  | va => simp only [upd, reduceCtorEq, if_false, if_true, fam, List.length_append, List.length_cons, List.length_nil, List.map_append, List.map_cons, List.map_nil, Nat.zero_add]
  | vb => simp only [upd, reduceCtorEq, if_false, if_true, fam, List.length_append, List.length_cons, List.length_nil, List.map_append, List.map_cons, List.map_nil, Nat.zero_add]
  | p i =>
    simp only [upd, reduceCtorEq, if_false, fam, Ix.p.injEq]
    by_cases e : i = L.length
    · subst e; simp
    · rw [if_neg e]
      by_cases hl : i < L.length
      · rw [List.getElem?_append_left hl]
      · rw [List.getElem?_eq_none (by omega), List.getElem?_eq_none (by simp; omega)]
  | q i =>
    simp only [upd, reduceCtorEq, if_false, fam, Ix.q.injEq]
    by_cases e : i = L.length
    · subst e; simp
    · rw [if_neg e]
      by_cases hl : i < L.length
      · rw [List.getElem?_append_left hl]
      · rw [List.getElem?_eq_none (by omega), List.getElem?_eq_none (by simp; omega)]
theorem fam_put {base most : Int} {va vb : Value} {L : List Bk} {c d k : Nat} {n m : Int} (hk : k < L.length) (i : Ix) :
    upd (upd (upd (upd (fam base most va vb L) (.p k) (Own.blk c #[.int .i64 base, .int .i64 most, .int .i64 n] 82)) (.q k) (Own.blk d #[.int .i64 base, .int .i64 most, .int .i64 m] 39))
      .va (Own.row 23 1 va L.length ((L.map fun x => Ptr x.p).set k (Ptr c)))) .vb (Own.row 30 1 vb L.length ((L.map fun x => Ptr x.q).set k (Ptr d))) i = fam base most va vb (L.set k ⟨c, d, n, m⟩) i := by
  cases i with
  | va => simp only [upd, reduceCtorEq, if_false, if_true, fam, List.length_set, List.map_set]
  | vb => simp only [upd, reduceCtorEq, if_false, if_true, fam, List.length_set, List.map_set]
  | p i =>
    simp only [upd, reduceCtorEq, if_false, fam, Ix.p.injEq]
    by_cases e : i = k
    · subst e; simp [hk]
    · simp [e, List.getElem?_set, Ne.symm e]
  | q i =>
    simp only [upd, reduceCtorEq, if_false, fam, Ix.q.injEq]
    by_cases e : i = k
    · subst e; simp [hk]
    · simp [e, List.getElem?_set, Ne.symm e]
def ActsAt (w : World) (A : Option Addr) (len : Nat) : Prop :=
  ∀ i, i < len → ∃ (b off : Nat) (k a : Int) (n : ByteArray) (u t : Int), A = some ⟨b, off, none⟩ ∧ b < w.heap.size ∧ w.cell? ⟨b, off + i * 5, none⟩ = some (.int .i64 k) ∧ w.cell? ⟨b, off + i * 5 + 1, none⟩ = some (.int .i64 a) ∧
    w.cell? ⟨b, off + i * 5 + 2, none⟩ = some (.string n) ∧ w.cell? ⟨b, off + i * 5 + 3, none⟩ = some (.int .i64 u) ∧ w.cell? ⟨b, off + i * 5 + 4, none⟩ = some (.int .i64 t)

set_option maxHeartbeats 2000000 in
set_option maxRecDepth 100000 in
theorem pat_yes (base most : Int) (A : Option Addr) (len cap : Nat) (w : World) (h : 1 ≤ base) (h2 : base ≤ most) (h3 : most ≤ 1024) (hA : ActsAt w A len) (hlen : len ≤ 140737488351232) :
    Calls Try.prog 8 #[.int .i64 base, .int .i64 most, .slice A len cap] w fun e w' => e = .returned (.bool true) ∧ Below w.heap.size w w' := by
  have HA := Lib.hid hA
  clear hA
  go_enter Try.func8, Try.ntmps8
  go_wp2_with (first | (go_at_call 12; refine (new_any base most _ h h2 h3).mono ?_; rintro e w' ⟨rfl, rfl⟩) | (go_at_call 16; refine (rnew_any base most _ h h2 h3).mono ?_; rintro e w' ⟨rfl, rfl⟩))
  go_loopw [11, 12, 50] (fun va vb s wr => ∃ (k : Nat) (L : List Bk), k ≤ len ∧ s = .int .i64 k ∧ 1 ≤ L.length ∧ L.length ≤ 4 ∧ (∀ x ∈ L, x.n = x.m ∧ 0 ≤ x.n ∧ x.n ≤ 1024) ∧ Sep w wr (fam base most va vb L)) (fun _ _ s _ => len - (intOf s).toNat)
  case atStart => exact ⟨0, _, Nat.zero_le _, rfl, by simp, by simp, by simp; omega, fam_start w base most⟩
  case round =>
    obtain ⟨k, L, hk, rfl, hL1, hL4, hL, hS⟩ := hrel
    obtain ⟨ga, ca, rfl, hga, hfa, hca⟩ := row_ptr (hS.all .va) hL1
    obtain ⟨gb, cb, rfl, hgb, hfb, hcb⟩ := row_ptr (hS.all .vb) hL1
    have HS := Lib.hid hS
    have HL := Lib.hid hL
    clear hS hL
    by_cases hlt : k < len
    · obtain ⟨b, off, kd, at_, nm, u, tk, rfl, hb, c0, c1, c2, c3, c4⟩ := HA.out k hlt
      have hd : decide ((k : Int) < (len : Int)) = true := by simp; omega
      have bel := HS.out.bel
      have hbw : b < wr.heap.size := Nat.lt_of_lt_of_le hb bel.size
      rw [← bel.cell (p := ⟨b, _, none⟩) hb] at c0 c1 c2 c3 c4
      clear bel hb
      go_wp2_with fail
      refine (among_any at_ _ _ (by omega) (by omega)).mono ?_
      rintro e w' ⟨j, hj0, hj1, hj2, rfl, rfl⟩
      obtain ⟨i, rfl⟩ := Int.eq_ofNat_of_zero_le hj0
      have hi : i < L.length := by omega
      clear hj0 hj2
      obtain ⟨x, hx⟩ : ∃ x, L[i]? = some x := ⟨L[i], List.getElem?_eq_getElem hi⟩
      obtain ⟨hcai, hfai⟩ := hca i x hx
      obtain ⟨hcbi, hfbi⟩ := hcb i x hx
      obtain ⟨hbp, hbq, hpq⟩ := fam_at HS.out hx
      have hgap : ga ≠ x.p := fun e => by cases HS.out.apart .va (.p i) ga hfa (by simp only [fam, hx]; exact e)
      have hgaq : ga ≠ x.q := fun e => by cases HS.out.apart .va (.q i) ga hfa (by simp only [fam, hx]; exact e)
      have hgbp : gb ≠ x.p := fun e => by cases HS.out.apart .vb (.p i) gb hfb (by simp only [fam, hx]; exact e)
      have hgbq : gb ≠ x.q := fun e => by cases HS.out.apart .vb (.q i) gb hfb (by simp only [fam, hx]; exact e)
      have hlp := hbp.lt
      have hlq := hbq.lt
      obtain ⟨hnm, hn0, hn1⟩ := HL.out x (List.mem_of_getElem? hx)
      have Hnm := Lib.hid hnm
      clear hnm hca hcb
      go_wp2_with fail
      refine (among_any kd 4 _ (by omega) (by omega)).mono ?_
      rintro e w' ⟨j, hj0, hj1, hj2, rfl, rfl⟩
      have hm0 : 0 ≤ x.m := by rw [← Hnm.out]; exact hn0
      have hm1 : x.m ≤ 1024 := by rw [← Hnm.out]; exact hn1
      have hne : (x.n != x.m) = false := by simp [Hnm.out]
      obtain rfl | rfl | rfl | rfl : j = 0 ∨ j = 1 ∨ j = 2 ∨ j = 3 := by omega
      · clear hj0 hj1 hj2
        have HB1 := Lib.hid (hbp.alloc (.cells #[.int .i64 kd, .int .i64 at_, .string nm, .int .i64 u, .int .i64 tk] 36)).drew
        have HB2 := Lib.hid (hbq.alloc (.cells #[.int .i64 kd, .int .i64 at_, .string nm, .int .i64 u, .int .i64 tk] 36)).drew
        have HS1 := Lib.hid (HS.out.alloc (.cells #[.int .i64 kd, .int .i64 at_, .string nm, .int .i64 u, .int .i64 tk] 36)).drew
        have HCB := Lib.hid (show ((wr.alloc (.cells #[.int .i64 kd, .int .i64 at_, .string nm, .int .i64 u, .int .i64 tk] 36)).drew).cell? ⟨gb, i, none⟩ = some (Ptr x.q) from (World.cell?_alloc_lt _ _ _ hgb).trans hcbi)
        have HCA := Lib.hid (show ((wr.alloc (.cells #[.int .i64 kd, .int .i64 at_, .string nm, .int .i64 u, .int .i64 tk] 36)).drew).cell? ⟨ga, i, none⟩ = some (Ptr x.p) from (World.cell?_alloc_lt _ _ _ hga).trans hcai)
        have HLB := Lib.hid (show gb < ((wr.alloc (.cells #[.int .i64 kd, .int .i64 at_, .string nm, .int .i64 u, .int .i64 tk] 36)).drew).heap.size by simp; omega)
        have HLA := Lib.hid (show ga < ((wr.alloc (.cells #[.int .i64 kd, .int .i64 at_, .string nm, .int .i64 u, .int .i64 tk] 36)).drew).heap.size by simp; omega)
        clear hbp hbq
        go_wp2_with fail
        go_region_held3 (fun w' => w'.cell? ⟨ga, i, none⟩ = some (Ptr x.p) ∧ w'.cell? ⟨gb, i, none⟩ = some (Ptr x.q))
          (first
            | exact ⟨HCA.out, HCB.out⟩
            | exact ⟨(hs1.chg.cell (p := ⟨ga, i, none⟩) HLA.out hgap).trans HCA.out, (hs1.chg.cell (p := ⟨gb, i, none⟩) HLB.out hgbp).trans HCB.out⟩
            | exact ⟨(hs2.chg.cell (p := ⟨ga, i, none⟩) HLA.out hgaq).trans HCA.out, (hs2.chg.cell (p := ⟨gb, i, none⟩) HLB.out hgbq).trans HCB.out⟩
            | exact ⟨(hs2.chg.cell (p := ⟨ga, i, none⟩) (by rw [hs1.size]; exact HLA.out) hgaq).trans ((hs1.chg.cell (p := ⟨ga, i, none⟩) HLA.out hgap).trans HCA.out), (hs2.chg.cell (p := ⟨gb, i, none⟩) (by rw [hs1.size]; exact HLB.out) hgbq).trans ((hs1.chg.cell (p := ⟨gb, i, none⟩) HLB.out hgbp).trans HCB.out)⟩
            | exact ⟨(hs1.chg.cell (p := ⟨ga, i, none⟩) (by rw [hs2.size]; exact HLA.out) hgap).trans ((hs2.chg.cell (p := ⟨ga, i, none⟩) HLA.out hgaq).trans HCA.out), (hs1.chg.cell (p := ⟨gb, i, none⟩) (by rw [hs2.size]; exact HLB.out) hgbp).trans ((hs2.chg.cell (p := ⟨gb, i, none⟩) HLB.out hgbq).trans HCB.out)⟩)
          (first
            | (go_at_call 14; refine (pnext_any x.p base x.n most _ (by first | exact HB1.out | exact HB1.out.chg hs2.chg hpq) hn0 hn1).mono ?_; rintro e w1 ⟨rfl, hs1⟩)
            | (go_at_call 18; refine (rnext_any x.q base x.m most _ (by first | exact HB2.out | exact HB2.out.chg hs1.chg hpq.symm) hm0 hm1).mono ?_; rintro e w2 ⟨rfl, hs2⟩))
        go_wp2_with fail
        have HN := Lib.hid (fam_pq HS1.out hx hs1 hs2)
        go_roundw
        case rel => exact ⟨k + 1, L.set i ⟨x.p, x.q, min (2 * x.n) most, min (2 * x.m) most⟩, by omega, by go_num, by simpa using hL1, by simpa using hL4, all_set HL.out i ⟨by simp [Hnm.out], by simp only []; omega, by simp only []; omega⟩, HN.out⟩
        case measure => simp [intOf]; omega
      · clear hj0 hj1 hj2
        have HB1 := Lib.hid (hbp.alloc (.cells #[.int .i64 kd, .int .i64 at_, .string nm, .int .i64 u, .int .i64 tk] 36)).drew
        have HB2 := Lib.hid (hbq.alloc (.cells #[.int .i64 kd, .int .i64 at_, .string nm, .int .i64 u, .int .i64 tk] 36)).drew
        have HS1 := Lib.hid (HS.out.alloc (.cells #[.int .i64 kd, .int .i64 at_, .string nm, .int .i64 u, .int .i64 tk] 36)).drew
        have HCB := Lib.hid (show ((wr.alloc (.cells #[.int .i64 kd, .int .i64 at_, .string nm, .int .i64 u, .int .i64 tk] 36)).drew).cell? ⟨gb, i, none⟩ = some (Ptr x.q) from (World.cell?_alloc_lt _ _ _ hgb).trans hcbi)
        have HCA := Lib.hid (show ((wr.alloc (.cells #[.int .i64 kd, .int .i64 at_, .string nm, .int .i64 u, .int .i64 tk] 36)).drew).cell? ⟨ga, i, none⟩ = some (Ptr x.p) from (World.cell?_alloc_lt _ _ _ hga).trans hcai)
        have HLB := Lib.hid (show gb < ((wr.alloc (.cells #[.int .i64 kd, .int .i64 at_, .string nm, .int .i64 u, .int .i64 tk] 36)).drew).heap.size by simp; omega)
        have HLA := Lib.hid (show ga < ((wr.alloc (.cells #[.int .i64 kd, .int .i64 at_, .string nm, .int .i64 u, .int .i64 tk] 36)).drew).heap.size by simp; omega)
        have HC2 := Lib.hid (HB2.out.cell 2)
        have HC1 := Lib.hid (HB1.out.cell 2)
        simp only [List.getElem?_toArray, List.getElem?_cons_succ, List.getElem?_cons_zero] at HC1 HC2
        clear hbp hbq
        go_wp2_with fail
        go_region_held3 (fun w' => w'.cell? ⟨ga, i, none⟩ = some (Ptr x.p) ∧ w'.cell? ⟨gb, i, none⟩ = some (Ptr x.q) ∧ w'.cell? ⟨x.q, 2, none⟩ = some (.int .i64 x.m))
          (first
            | exact ⟨HCA.out, HCB.out, HC2.out⟩)
          (first
            | (go_at_call 13; refine (now_any x.p x.n _ HC1.out).mono ?_; rintro e w1 ⟨rfl, rfl⟩))
        go_wp2_with fail
        go_roundw
        case rel => exact ⟨k + 1, L, by omega, by go_num, hL1, hL4, HL.out, HS1.out⟩
        case measure => simp [intOf]; omega
      · clear hj0 hj1 hj2
        have HB1 := Lib.hid (hbp.alloc (.cells #[.int .i64 kd, .int .i64 at_, .string nm, .int .i64 u, .int .i64 tk] 36))
        have HB2 := Lib.hid (hbq.alloc (.cells #[.int .i64 kd, .int .i64 at_, .string nm, .int .i64 u, .int .i64 tk] 36))
        have HS1 := Lib.hid (HS.out.alloc (.cells #[.int .i64 kd, .int .i64 at_, .string nm, .int .i64 u, .int .i64 tk] 36))
        have HCB := Lib.hid (show (wr.alloc (.cells #[.int .i64 kd, .int .i64 at_, .string nm, .int .i64 u, .int .i64 tk] 36)).cell? ⟨gb, i, none⟩ = some (Ptr x.q) from (World.cell?_alloc_lt _ _ _ hgb).trans hcbi)
        have HLB := Lib.hid (show gb < (wr.alloc (.cells #[.int .i64 kd, .int .i64 at_, .string nm, .int .i64 u, .int .i64 tk] 36)).heap.size by simp; omega)
        clear hbp hbq
        go_wp2_with (go_at_call 15; refine (preset_any x.p base x.n most _ HB1.out).mono ?_; rintro e w1 ⟨rfl, hs1⟩)
        have hcb1 : w1.cell? ⟨gb, i, none⟩ = some (Ptr x.q) := (hs1.chg.cell (p := ⟨gb, i, none⟩) HLB.out hgbp).trans HCB.out
        have HB3 := Lib.hid (HB2.out.chg hs1.chg hpq.symm)
        have c0 := HB3.out.cell 0
        have c2 := HB3.out.cell 2
        have f2 := HB3.out.frozen 2
        simp only [List.getElem?_toArray, List.getElem?_cons_succ, List.getElem?_cons_zero] at c0 c2
        go_still_tail 13, (by kernel_rfl)
        change wpList _ _ _ _ _ w1.drew
        go_wp2_with fail
        have HN := Lib.hid (fam_pq HS1.out hx hs1 (SetBlk.of_set (w := w1.drew) HB3.out.drew 2 (.int .i64 base)).drewl)
        go_roundw
        case rel => exact ⟨k + 1, L.set i ⟨x.p, x.q, base, base⟩, by omega, by go_num, by simpa using hL1, by simpa using hL4, all_set HL.out i ⟨rfl, by simp only []; omega, by simp only []; omega⟩, HN.out⟩
        case measure => simp [intOf]; omega
      · clear hj0 hj1 hj2
        have HB1 := Lib.hid (hbp.alloc (.cells #[.int .i64 kd, .int .i64 at_, .string nm, .int .i64 u, .int .i64 tk] 36))
        have HB2 := Lib.hid (hbq.alloc (.cells #[.int .i64 kd, .int .i64 at_, .string nm, .int .i64 u, .int .i64 tk] 36))
        have HS1 := Lib.hid (HS.out.alloc (.cells #[.int .i64 kd, .int .i64 at_, .string nm, .int .i64 u, .int .i64 tk] 36))
        by_cases hL44 : L.length < 4
        · have hd4 : decide ((L.length : Int) < 4) = true := by simp; omega
          have HSA := Lib.hid (HS1.out.turn (.p L.length) (Turns.new _ #[.int .i64 base, .int .i64 most, .int .i64 x.n] 82))
          simp only [World.size_alloc] at HSA
          obtain ⟨i0, hi0, hz0, hz1, hz2⟩ := info_parts Try.info23
          obtain ⟨i1, hi1, hy0, hy1, hy2⟩ := info_parts Try.info30
          go_wp2_with (first
            | (go_at_call 19; refine (pclone_any x.p base x.n most _ HB1.out).mono ?_; rintro e w1 ⟨rfl, rfl⟩)
            | (go_at_call 20; refine (rclone_any x.q base x.m most _ (HB2.out.alloc _)).mono ?_; rintro e w2 ⟨rfl, hw2, ht2⟩; have HSB := Lib.hid (HSA.out.turn (.q L.length) (ht2.wide _)); simp only [World.size_alloc] at HSB; clear ht2)
            | (at_builtin; refine wpList_append_own_at _ rfl (.tmp 127) (.tmp 129) 33 rfl 0 23 i0 (.pointer none) 1 8 Try.underlying33 hi0 hz0 hz1 hz2 rfl (by decide) _ L.length _ rfl ((HSB.out.alloc _).all .va) ⟨w2.heap.size, 0, none⟩ 1 1 _ rfl rfl (cell_one_new _ _ _) (by simp [Value.oneCell']) (by simp only [maxLen]; omega) (by omega) (Nat.zero_le _) ?_; intro v1 w3 ho1 hg1 _ hat1; have HSC := Lib.hid ((HSB.out.alloc _).turn .va (Turns.row ho1 hg1 hat1)); clear ho1 hg1 hat1)
            | (at_builtin; refine wpList_append_own_at _ rfl (.tmp 131) (.tmp 133) 34 rfl 0 30 i1 (.pointer none) 1 8 Try.underlying34 hi1 hy0 hy1 hy2 rfl (by decide) _ L.length _ rfl ((HSC.out.alloc _).all .vb) ⟨w3.heap.size, 0, none⟩ 1 1 _ rfl rfl (cell_one_new _ _ _) (by simp [Value.oneCell']) (by simp only [maxLen]; omega) (by omega) (Nat.zero_le _) ?_; intro v2 w4 ho2 hg2 _ hat2; have HSD := Lib.hid ((HSC.out.alloc _).turn .vb (Turns.row ho2 hg2 hat2)); clear ho2 hg2 hat2))
          have HN := Lib.hid (HSD.out.as fun i => fam_push i)
          go_roundw
          case rel => exact ⟨k + 1, L ++ [⟨_, _, x.n, x.m⟩], by omega, by go_num, by simp, by simp; omega, fun z hz => by
            rcases List.mem_append.1 hz with h' | h'
            · exact HL.out z h'
            · simp only [List.mem_singleton] at h'; subst h'; exact ⟨Hnm.out, hn0, hn1⟩, HN.out⟩
          case measure => simp [intOf]; omega
        · have hd4 : decide ((L.length : Int) < 4) = false := by simp; omega
          have hgba : gb ≠ ga := fun e => by cases HS.out.apart .vb .va gb hfb (by rw [e]; exact hfa)
          go_wp2_with (first
            | (go_at_call 19; refine (pclone_any x.p base x.n most _ HB1.out).mono ?_; rintro e w1 ⟨rfl, rfl⟩)
            | (go_at_call 20; refine (rclone_any x.q base x.m most _ (HB2.out.alloc _)).mono ?_; rintro e w2 ⟨rfl, hw2, ht2⟩; have hc14 : w2.cell? ⟨wr.heap.size, 4, none⟩ = some (.int .i64 tk) := (ht2.chg.cell (p := ⟨wr.heap.size, 4, none⟩) (by simp; omega) id).trans (by simp)))
          refine (among_any tk 4 _ (by omega) (by omega)).mono ?_
          rintro e w3 ⟨j', hj0', hj1', hj2', rfl, rfl⟩
          obtain ⟨to, rfl⟩ := Int.eq_ofNat_of_zero_le hj0'
          have hto : to < L.length := by omega
          clear hj0' hj2'
          obtain ⟨y, hy⟩ : ∃ y, L[to]? = some y := ⟨L[to], List.getElem?_eq_getElem hto⟩
          have HSA := Lib.hid (HS1.out.turn (.p to) (Turns.new _ #[.int .i64 base, .int .i64 most, .int .i64 x.n] 82))
          have HSB := Lib.hid (HSA.out.turn (.q to) (ht2.wide _))
          simp only [World.size_alloc] at HSB
          have HSC := Lib.hid (HSB.out.turn .va (Turns.row_set (HSB.out.all .va) to (Ptr (wr.heap.size + 1))))
          have HSD := Lib.hid (HSC.out.turn .vb (Turns.row_set (HSC.out.all .vb) to (Ptr (wr.heap.size + 1 + 1))))
          obtain ⟨hta, htf⟩ := row_at (f := Bk.p) (HSB.out.all .va) hy
          obtain ⟨htb, htg⟩ := row_at (f := Bk.q) (HSB.out.all .vb) hy
          clear ht2
          go_wp2_with fail
          have HN := Lib.hid (HSD.out.as fun i => fam_put hto i)
          go_roundw
          case rel => exact ⟨k + 1, L.set to ⟨wr.heap.size + 1, wr.heap.size + 1 + 1, x.n, x.m⟩, by omega, by go_num, by simpa using hL1, by simpa using hL4, all_set HL.out to ⟨Hnm.out, hn0, hn1⟩, HN.out⟩
          case measure => simp [intOf]; omega
    · have hkl : k = len := by omega
      have hd : decide ((k : Int) < (len : Int)) = false := by simp; omega
      clear hkl
      go_wp2_with fail
      clear hga hgb hca hcb hfa hfb
      go_loopw [149] (fun s wx => ∃ i : Nat, i ≤ L.length ∧ s = .int .i64 i ∧ Sep w wx (fam base most (.slice (some ⟨ga, 0, none⟩) L.length ca) (.slice (some ⟨gb, 0, none⟩) L.length cb) L)) (fun s _ => L.length - (intOf s).toNat)
      case atStart => exact ⟨0, Nat.zero_le _, rfl, HS.out⟩
      case round =>
        obtain ⟨i, hi, rfl, hSx⟩ := hrel
        by_cases hlt2 : i < L.length
        · obtain ⟨x, hx⟩ : ∃ x, L[i]? = some x := ⟨L[i], List.getElem?_eq_getElem hlt2⟩
          have HSX := Lib.hid hSx
          clear hSx
          have HCA := Lib.hid (row_at (f := Bk.p) (HSX.out.all .va) hx).1
          have HCB := Lib.hid (row_at (f := Bk.q) (HSX.out.all .vb) hx).1
          obtain ⟨hbp, hbq, _⟩ := fam_at HSX.out hx
          have HC2 := Lib.hid (hbq.cell 2)
          have HC1 := Lib.hid (hbp.cell 2)
          simp only [List.getElem?_toArray, List.getElem?_cons_succ, List.getElem?_cons_zero] at HC1 HC2
          have hne : (x.n != x.m) = false := by simp [(HL.out x (List.mem_of_getElem? hx)).1]
          have hd2 : decide ((i : Int) < (L.length : Int)) = true := by simp; omega
          clear hbp hbq
          go_wp2_with fail
          go_region_held3 (fun w' => w'.cell? ⟨ga, i, none⟩ = some (Ptr x.p) ∧ w'.cell? ⟨gb, i, none⟩ = some (Ptr x.q) ∧ w'.cell? ⟨x.q, 2, none⟩ = some (.int .i64 x.m))
            (first
              | exact ⟨HCA.out, HCB.out, HC2.out⟩)
            (first
              | (go_at_call 13; refine (now_any x.p x.n _ (by exact HC1.out)).mono ?_; rintro e w1 ⟨rfl, rfl⟩))
          go_wp2_with fail
          go_roundw
          case rel => exact ⟨i + 1, by omega, by go_num, HSX.out.drew⟩
          case measure => simp [intOf]; omega
        · have hd2 : decide ((i : Int) < (L.length : Int)) = false := by simp; omega
          have HB := Lib.hid hSx.bel
          clear hSx
          go_wp2_with fail
          go_ret
          exact ⟨rfl, HB.out⟩
set_option maxRecDepth 100000 in
theorem pat_no (base most : Int) (v : Value) (w : World) (h : base < 1 ∨ most < base ∨ 1024 < most) :
    Calls Try.prog 8 #[.int .i64 base, .int .i64 most, v] w fun e w' => e = .returned (.bool true) ∧ Below w.heap.size w w' := by
  obtain ⟨k, hk, hc1, hc2⟩ := news_no base most w h
  have H1 := Lib.hid hc1
  have H2 := Lib.hid hc2
  clear hc1 hc2 h
  go_enter Try.func8, Try.ntmps8
  go_wp2_with (first
    | (go_at_call 12; refine H1.out.mono ?_; rintro e w' ⟨rfl, rfl⟩)
    | (go_at_call 16; refine H2.out.mono ?_; rintro e w' ⟨rfl, rfl⟩))
  go_ret
  exact ⟨rfl, Below.refl _ _⟩
end Go.Proofs.Ytpaaghbmlenlfaa.Tm
