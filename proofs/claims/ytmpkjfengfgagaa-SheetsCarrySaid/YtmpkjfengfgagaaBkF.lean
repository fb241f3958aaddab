/- Package sheets: Put, Get, Looks, Last. -/
import Derived.Test.YtmpkjfengfgagaaBkE
import Derived.Test.YtmpkjfengfgagaaBkP
namespace Go.Proofs.Ytmpkjfengfgagaa.Bk
open Go.RowKit Go.Hp
attribute [local go_sem] min2_lean min_two max2_lean max_two
set_option linter.unusedSimpArgs false
set_option linter.unusedVariables false
set_option maxRecDepth 100000
/-- A pool grows. -/
structure Pool.le (P P' : Pool) : Prop where
  s : ∀ x ∈ P.S, x ∈ P'.S
  q : ∀ x ∈ P.Q, x ∈ P'.Q
theorem Pool.le.rfl' (P : Pool) : P.le P := ⟨fun _ h => h, fun _ h => h⟩
theorem Pool.le_add (P : Pool) (v : Value) (l : List UInt8) : P.le (P.add v l) := ⟨fun _ h => List.mem_append_left _ h, fun _ h => h⟩
theorem Pool.le.trans {P P' P2 : Pool} (h : P.le P') (h2 : P'.le P2) : P.le P2 := ⟨fun x hx => h2.s x (h.s x hx), fun x hx => h2.q x (h.q x hx)⟩
theorem Bk.Ok.mono {P P' : Pool} {b : Bk} {db : Nat → List UInt8} (h : Bk.Ok P b db) (hp : P.le P') : Bk.Ok P' b db :=
  ⟨h.n1, h.n64, h.wd, fun k hk ho => hp.q _ (h.sh k hk ho), fun i hi => hp.s _ (h.dt i hi), h.tr, h.a0, h.ln, h.hi, h.one⟩
/-- What a book says. -/
structure Ab where
  n : Nat
  at_ : Nat → Int
  db : Nat → List UInt8
def Ab.set (A : Ab) (u : Nat) (a : Int) (l : List UInt8) : Ab := ⟨A.n, fun j => if j = u then a else A.at_ j, fun j => if j = u then l else A.db j⟩
def Ab.last (A : Ab) : Int := mostF A.at_ 0 A.n
/-- A book that says so. -/
structure Bk.Is (P : Pool) (b : Bk) (A : Ab) : Prop where
  ok : Bk.Ok P b A.db
  n : b.n = A.n
  at_ : b.at_ = A.at_
theorem Bk.Is.mono {P P' : Pool} {b : Bk} {A : Ab} (h : Bk.Is P b A) (hp : P.le P') : Bk.Is P' b A := ⟨h.ok.mono hp, h.n, h.at_⟩
theorem Bk.Is.top {P : Pool} {b : Bk} {A : Ab} (h : Bk.Is P b A) : b.tp 1 = A.last := by
  obtain ⟨e, he, hw, _⟩ := wd_pow h.ok.n1 h.ok.n64
  have h1 := tree_top h.ok.tr (fun i => (h.ok.a0 i).1) e 1 0 (by rw [h.ok.wd, hw]; omega) (by rw [h.ok.wd, hw]; omega)
  rw [h1, ← hw, most_pad (wdF_rng h.ok.n1 h.ok.n64).1 h.ok.hi, h.n, h.at_]
  rfl
/-- What Put says. -/
def Ab.putE (A : Ab) (num a : Int) (l : List UInt8) : Int := if 0 ≤ num ∧ num < A.n then (if 1 ≤ a ∧ a ≤ 1099511627776 ∧ A.last ≤ a then (if l.length ≤ 2304 then 0 else 63) else 62) else 61
def Ab.put (A : Ab) (num a : Int) (l : List UInt8) : Ab := if A.putE num a l = 0 ∧ A.db num.toNat ≠ l then A.set num.toNat a l else A
theorem Pool.byt {P : Pool} {w : World} (h : P.own.holds w) {v : Value} {l : List UInt8} (hm : (v, l) ∈ P.S) : Byt w v l := (h.1 _ hm).1
/-- A sheet that is written: the book behind. -/
theorem Bk.Ok.write {P : Pool} {b b' : Bk} {db : Nat → List UInt8} {u k : Nat} {a : Int} {v : Value} {l : List UInt8} (h : Bk.Ok P b db) (hk : k = u / 8) (hu : u < b.n) (ha : 1 ≤ a ∧ a ≤ 1099511627776) (hl : l.length ≤ 2304)
    (e2 : b'.n = b.n) (e3 : b'.wd = b.wd) (e5 : b'.at_ = fun j => if j = u then a else b.at_ j) (e6 : b'.dv = fun j => if j = u then v else b.dv j) (ht : Tree b.wd b'.tp (fun j => if j = u then a else b.at_ j))
    (hs : ∀ j, j < 8 → b'.ow j = false → b.ow j = false ∧ j ≠ k ∧ b'.pc j = b.pc j) (hv : v.oneCell' = true) : Bk.Ok (P.add v l) b' (fun j => if j = u then l else db j) := by
  refine ⟨by rw [e2]; exact h.n1, by rw [e2]; exact h.n64, by rw [e3, e2]; exact h.wd, fun j hj ho => ?_, fun i hi => ?_, by rw [e3, e5]; exact ht, fun i => ?_, fun i => ?_, fun i hi => ?_, fun i => ?_⟩
  · obtain ⟨g1, g2, g3⟩ := hs j hj ho
    rw [g3, e5, e6]
    have := h.sh j hj g1
    have e : pcC (fun j => if j = u then a else b.at_ j) (fun j => if j = u then v else b.dv j) j = pcC b.at_ b.dv j := by
      have hue : u = 8 * k + u % 8 := by omega
      have := pc_ne (at_ := b.at_) (dv := b.dv) (r := u % 8) (by omega) g2 a v
      rw [← hue] at this
      exact this
    rw [e]
    exact this
  · rw [e6]
    by_cases e : i = u
    · subst e; simp [Pool.add]
    · simp only [if_neg e]; exact List.mem_append_left _ (h.dt i hi)
  · rw [e5]
    by_cases e : i = u
    · subst e; simp only [if_pos]; omega
    · simp only [if_neg e]; exact h.a0 i
  · by_cases e : i = u
    · subst e; simp only [if_pos]; omega
    · simp only [if_neg e]; exact h.ln i
  · rw [e5]
    have : i ≠ u := by rw [e2] at hi; omega
    simp only [if_neg this]
    exact h.hi i (by rw [← e2]; exact hi)
  · rw [e6]
    by_cases e : i = u
    · subst e; simp only [if_pos]; exact hv
    · simp only [if_neg e]; exact h.one i
section
variable {P : Pool} {b : Bk} {A : Ab} {w : World}
theorem write_is (h : Bk.Is P b A) (hh : (Hp.Own.both P.own b.own).holds w) (u : Nat) (a : Int) (X : Option Addr) (n c : Nat) (l : List UInt8) (hu : u < A.n) (ha : 1 ≤ a ∧ a ≤ 1099511627776)
    (hx : Byt w (.slice X n c) l) (hxb : ∀ w', Chg (Hp.Own.both P.own b.own).foot w w' → Byt w' (.slice X n c) l) (hl : l.length ≤ 2304) (hln : l.length = n) :
    Calls Try.prog 73 #[.pointer (some ⟨b.g, 0, none⟩), .int .i64 u, .int .i64 a, .slice X n c] w fun e w' => e = .returned (.tuple #[]) ∧ ∃ (P' : Pool) (b' : Bk), b'.g = b.g ∧ P.le P' ∧ Bk.Is P' b' (A.set u a l) ∧ Turns w w' (Hp.Own.both P.own b.own) (Hp.Own.both P'.own b'.own) := by
  have hr := wdF_rng h.ok.n1 h.ok.n64
  have hn := h.n
  have h64 := h.ok.n64
  refine (write_any P b u (u / 8) (u % 8) a X n c l w hh (by omega) (by omega) (by omega) (fun ho => h.ok.sh _ (by omega) ho) h.ok.one (by rw [h.ok.wd]; omega) (by rw [h.ok.wd]; omega) h.ok.tr hx hxb (by omega)).mono ?_
  rintro e w' ⟨rfl, v, b', e1, e2, e3, e5, e6, ht, hs, hv, t⟩
  refine ⟨rfl, P.add v l, b', e1, Pool.le_add P v l, ⟨h.ok.write rfl (by omega) ha hl e2 e3 e5 e6 ht hs hv, by rw [e2]; exact h.n, by rw [e5, h.at_]; rfl⟩, t⟩
theorem piece_cells (h : Bk.Is P b A) (hh : (Hp.Own.both P.own b.own).holds w) (k r : Nat) (hk : k < 8) (hr : r < 8) : w.cell? ⟨b.pc k, r * 2, none⟩ = some (.int .i64 (A.at_ (8 * k + r))) ∧ w.cell? ⟨b.pc k, r * 2 + 1, none⟩ = some (b.dv (8 * k + r)) := by
  rw [← h.at_]
  cases ho : b.ow k with
  | true => exact pc_cells (Bk.fam_at hh.2.1.2.1 hk ho) hr
  | false => exact pc_cells (hh.1.2 _ (h.ok.sh k hk ho)) hr
theorem put_any (h : Bk.Is P b A) (hh : (Hp.Own.both P.own b.own).holds w) (num a : Int) (X : Option Addr) (n c : Nat) (l : List UInt8)
    (hx : Byt w (.slice X n c) l) (hxb : ∀ w', Chg (Hp.Own.both P.own b.own).foot w w' → Byt w' (.slice X n c) l) (hln : l.length = n) :
    Calls Try.prog 15 #[.pointer (some ⟨b.g, 0, none⟩), .int .i64 num, .int .i64 a, .slice X n c] w fun e w' => e = .returned (.int .i64 (A.putE num a l)) ∧ ∃ (P' : Pool) (b' : Bk), b'.g = b.g ∧ P.le P' ∧ Bk.Is P' b' (A.put num a l) ∧ Turns w w' (Hp.Own.both P.own b.own) (Hp.Own.both P'.own b'.own) := by
  have hsame : ∀ E, A.putE num a l = E → E ≠ 0 → A.put num a l = A := fun E e1 e2 => by unfold Ab.put; rw [if_neg]; rw [e1]; exact fun h => e2 h.1
  have HTH := Lib.hid (there_any b.g A.n num w (by rw [← h.n]; exact bk_n hh.2.1.1))
  have HH := Lib.hid h
  have HR := Lib.hid (Turns.refl hh)
  by_cases c1 : 0 ≤ num ∧ num < A.n
  · have d1 : decide (0 ≤ num ∧ num < A.n) = true := by simpa using c1
    rw [d1] at HTH
    obtain ⟨u, rfl⟩ : ∃ u : Nat, num = (u : Int) := ⟨num.toNat, by omega⟩
    have hu : u < A.n := by omega
    have h64 : u < 64 := by have := h.ok.n64; have := h.n; omega
    have HLA := Lib.hid (last_any b.g (b.tp 1) w (bk_tp (k := 1) hh.2.1.1 (by omega)))
    rw [h.top] at HLA
    obtain ⟨lst, hlst⟩ : ∃ z, z = A.last := ⟨_, rfl⟩
    rw [← hlst] at HLA
    have HLST := Lib.hid hlst
    by_cases c2 : 1 ≤ a ∧ a ≤ 1099511627776 ∧ A.last ≤ a
    · have c2' : 1 ≤ a ∧ a ≤ 1099511627776 ∧ lst ≤ a := by rw [hlst]; exact c2
      have d2 : decide (a < 1) = false := by simp; omega
      have d3 : decide (1099511627776 < a) = false := by simp; omega
      have d4 : decide (a < lst) = false := by simp; omega
      by_cases c3 : l.length ≤ 2304
      · have d5 : decide ((2304 : Int) < (n : Int)) = false := by simp; omega
        have d5' : decide (2304 < n) = false := by simp; omega
        have hE : A.putE u a l = 0 := by unfold Ab.putE; rw [if_pos c1, if_pos c2, if_pos c3]
        have hp := piece_cells h hh (u / 8) (u % 8) (by omega) (by omega)
        have hu8 : 8 * (u / 8) + u % 8 = u := by omega
        rw [hu8] at hp
        have HSH := Lib.hid (sheet_any b.g u (b.pc (u / 8)) w h64 (bk_pc hh.2.1.1 (by omega)))
        have HEQ := Lib.hid (equal_any (b.dv u) (.slice X n c) (A.db u) l w (Pool.byt hh.1 (h.ok.dt u h64)) hx)
        obtain ⟨p, hp9⟩ : ∃ p, p = b.pc (u / 8) := ⟨_, rfl⟩
        obtain ⟨r, hr9⟩ : ∃ r, r = u % 8 := ⟨_, rfl⟩
        rw [← hp9, ← hr9] at hp HSH
        obtain ⟨p0, p1⟩ := hp
        obtain ⟨dv, hdv⟩ : ∃ v, v = b.dv u := ⟨_, rfl⟩
        rw [← hdv] at p1 HEQ
        by_cases c4 : A.db u = l
        · have d6 : (A.db u == l) = true := by simpa using c4
          rw [d6] at HEQ
          have hA : A.put u a l = A := by unfold Ab.put; rw [if_neg]; rintro ⟨_, h⟩; exact h (by simpa using c4)
          rw [hE, hA]
          clear h hh hx hxb hsame hE hA c1 c2 c3 c4 d6 d1 hp9 hr9 hdv hu8 p0 hlst c2'
          go_enter Try.func15, Try.ntmps15
          go_wp2_with (first
            | (go_at_call 71; (with_reducible refine HTH.out.mono ?_); rintro r1 w1' ⟨rfl, hq⟩; have hq := hq.symm; subst hq)
            | (go_at_call 27; (with_reducible refine HLA.out.mono ?_); rintro r1 w1' ⟨rfl, hq⟩; have hq := hq.symm; subst hq)
            | (go_at_call 68; (with_reducible refine HSH.out.mono ?_); rintro r1 w1' ⟨rfl, hq⟩; have hq := hq.symm; subst hq)
            | (go_at_call 72; (with_reducible refine HEQ.out.mono ?_); rintro r1 w1' ⟨rfl, hq⟩; have hq := hq.symm; subst hq))
          go_ret
          exact ⟨rfl, P, b, rfl, Pool.le.rfl' P, HH.out, HR.out⟩
        · have d6 : (A.db u == l) = false := by simpa using c4
          rw [d6] at HEQ
          have hA : A.put u a l = A.set u a l := by unfold Ab.put; rw [if_pos]; { rfl }; exact ⟨hE, by simpa using c4⟩
          rw [hE, hA]
          have HW := Lib.hid (write_is h hh u a X n c l hu ⟨c2.1, c2.2.1⟩ hx hxb c3 hln)
          clear h hh hx hxb hsame hE hA c1 c2 c3 c4 d6 d1 hp9 hr9 hdv hu8 p0 hlst c2'
          go_enter Try.func15, Try.ntmps15
          go_wp2_with (first
            | (go_at_call 73; (with_reducible refine HW.out.mono ?_); rintro r1 w1' ⟨rfl, P', b', hg, hle, his, ht⟩; have HW2 := Lib.hid ht; have HI := Lib.hid his; have HL := Lib.hid hle; have HG := Lib.hid hg; clear ht his hle hg)
            | (go_at_call 71; (with_reducible refine HTH.out.mono ?_); rintro r1 w1' ⟨rfl, hq⟩; have hq := hq.symm; subst hq)
            | (go_at_call 27; (with_reducible refine HLA.out.mono ?_); rintro r1 w1' ⟨rfl, hq⟩; have hq := hq.symm; subst hq)
            | (go_at_call 68; (with_reducible refine HSH.out.mono ?_); rintro r1 w1' ⟨rfl, hq⟩; have hq := hq.symm; subst hq)
            | (go_at_call 72; (with_reducible refine HEQ.out.mono ?_); rintro r1 w1' ⟨rfl, hq⟩; have hq := hq.symm; subst hq))
          go_ret
          exact ⟨rfl, P', b', HG.out, HL.out, HI.out, HW2.out⟩
      · have d5 : decide ((2304 : Int) < (n : Int)) = true := by simp; omega
        have d5' : decide (2304 < n) = true := by simp; omega
        have hE : A.putE u a l = 63 := by unfold Ab.putE; rw [if_pos c1, if_pos c2, if_neg c3]
        rw [hsame 63 hE (by omega), hE]
        clear h hh hx hxb hsame hE c1 c2 c3 d1 hlst c2'
        go_enter Try.func15, Try.ntmps15
        go_wp2_with (first
          | (go_at_call 71; (with_reducible refine HTH.out.mono ?_); rintro r1 w1' ⟨rfl, hq⟩; have hq := hq.symm; subst hq)
          | (go_at_call 27; (with_reducible refine HLA.out.mono ?_); rintro r1 w1' ⟨rfl, hq⟩; have hq := hq.symm; subst hq))
        go_ret
        exact ⟨rfl, P, b, rfl, Pool.le.rfl' P, HH.out, HR.out⟩
    · have hE : A.putE u a l = 62 := by unfold Ab.putE; rw [if_pos c1, if_neg c2]
      have c2' : ¬ (1 ≤ a ∧ a ≤ 1099511627776 ∧ lst ≤ a) := by rw [hlst]; exact c2
      rw [hsame 62 hE (by omega), hE]
      clear h hh hx hxb hsame hE c1 c2 d1 hlst
      by_cases e1 : a < 1
      · have d2 : decide (a < 1) = true := by simpa using e1
        clear c2'
        go_enter Try.func15, Try.ntmps15
        go_wp2_with (first
          | (go_at_call 71; (with_reducible refine HTH.out.mono ?_); rintro r1 w1' ⟨rfl, hq⟩; have hq := hq.symm; subst hq)
          | (go_at_call 27; (with_reducible refine HLA.out.mono ?_); rintro r1 w1' ⟨rfl, hq⟩; have hq := hq.symm; subst hq))
        go_ret
        exact ⟨rfl, P, b, rfl, Pool.le.rfl' P, HH.out, HR.out⟩
      · have d2 : decide (a < 1) = false := by simpa using e1
        by_cases e2 : 1099511627776 < a
        · have d3 : decide (1099511627776 < a) = true := by simpa using e2
          clear c2'
          go_enter Try.func15, Try.ntmps15
          go_wp2_with (first
            | (go_at_call 71; (with_reducible refine HTH.out.mono ?_); rintro r1 w1' ⟨rfl, hq⟩; have hq := hq.symm; subst hq)
            | (go_at_call 27; (with_reducible refine HLA.out.mono ?_); rintro r1 w1' ⟨rfl, hq⟩; have hq := hq.symm; subst hq))
          go_ret
          exact ⟨rfl, P, b, rfl, Pool.le.rfl' P, HH.out, HR.out⟩
        · have d3 : decide (1099511627776 < a) = false := by simpa using e2
          have d4 : decide (a < lst) = true := by simp; omega
          clear c2'
          go_enter Try.func15, Try.ntmps15
          go_wp2_with (first
            | (go_at_call 71; (with_reducible refine HTH.out.mono ?_); rintro r1 w1' ⟨rfl, hq⟩; have hq := hq.symm; subst hq)
            | (go_at_call 27; (with_reducible refine HLA.out.mono ?_); rintro r1 w1' ⟨rfl, hq⟩; have hq := hq.symm; subst hq))
          go_ret
          exact ⟨rfl, P, b, rfl, Pool.le.rfl' P, HH.out, HR.out⟩
  · have d1 : decide (0 ≤ num ∧ num < A.n) = false := by simpa using c1
    rw [d1] at HTH
    have hE : A.putE num a l = 61 := by unfold Ab.putE; rw [if_neg c1]
    rw [hsame 61 hE (by omega), hE]
    clear h hh hx hxb hsame hE c1 d1
    go_enter Try.func15, Try.ntmps15
    go_wp2_with (first
      | (go_at_call 71; (with_reducible refine HTH.out.mono ?_); rintro r1 w1' ⟨rfl, hq⟩; have hq := hq.symm; subst hq))
    go_ret
    exact ⟨rfl, P, b, rfl, Pool.le.rfl' P, HH.out, HR.out⟩
def Ab.getE (A : Ab) (num : Int) : Int := if 0 ≤ num ∧ num < A.n then 0 else 61
def Ab.getA (A : Ab) (num : Int) : Int := if 0 ≤ num ∧ num < A.n then A.at_ num.toNat else 0
def Ab.getD (A : Ab) (num : Int) : List UInt8 := if 0 ≤ num ∧ num < A.n then A.db num.toNat else []
theorem get_any (h : Bk.Is P b A) (hh : (Hp.Own.both P.own b.own).holds w) (num : Int) :
    Calls Try.prog 29 #[.pointer (some ⟨b.g, 0, none⟩), .int .i64 num] w fun e w' => ∃ (X : Option Addr) (n c : Nat), e = .returned (.tuple #[.slice X n c, .int .i64 (A.getA num), .int .i64 (A.getE num)]) ∧ (A.getD num).length = n ∧ Turns w w' Hp.Own.emp (Hp.Own.row 5 1 (.slice X n c) n ((A.getD num).map bv)) := by
  have HTH := Lib.hid (there_any b.g A.n num w (by rw [← h.n]; exact bk_n hh.2.1.1))
  by_cases c1 : 0 ≤ num ∧ num < A.n
  · have d1 : decide (0 ≤ num ∧ num < A.n) = true := by simpa using c1
    rw [d1] at HTH
    have a1 : A.getA num = A.at_ num.toNat := if_pos c1
    have a2 : A.getE num = 0 := if_pos c1
    have a3 : A.getD num = A.db num.toNat := if_pos c1
    rw [a1, a2, a3]
    obtain ⟨u, rfl⟩ : ∃ u : Nat, num = (u : Int) := ⟨num.toNat, by omega⟩
    rw [Int.toNat_natCast]
    have hu : u < A.n := by omega
    have h64 : u < 64 := by have := h.ok.n64; have := h.n; omega
    have hp := piece_cells h hh (u / 8) (u % 8) (by omega) (by omega)
    have hu8 : 8 * (u / 8) + u % 8 = u := by omega
    rw [hu8] at hp
    have HSH := Lib.hid (sheet_any b.g u (b.pc (u / 8)) w h64 (bk_pc hh.2.1.1 (by omega)))
    have hby := Pool.byt hh.1 (h.ok.dt u h64)
    obtain ⟨X, c, hX⟩ := Src.len hby
    have hlen := h.ok.ln u
    obtain ⟨p, hp9⟩ : ∃ p, p = b.pc (u / 8) := ⟨_, rfl⟩
    obtain ⟨r, hr9⟩ : ∃ r, r = u % 8 := ⟨_, rfl⟩
    rw [← hp9, ← hr9] at hp HSH
    obtain ⟨p0, p1⟩ := hp
    obtain ⟨l, hl⟩ : ∃ l, l = A.db u := ⟨_, rfl⟩
    obtain ⟨at_, hat⟩ : ∃ a, a = A.at_ u := ⟨_, rfl⟩
    rw [← hl] at hX hby hlen ⊢
    rw [← hat] at p0 ⊢
    rw [hX] at p1 hby
    obtain ⟨n, hn⟩ : ∃ n, n = l.length := ⟨_, rfl⟩
    rw [← hn] at p1 hby
    have HBY := Lib.hid hby
    have hn2 : n ≤ 2304 := by omega
    have b0 := lt_blk p0
    clear h hh a1 a2 a3 c1 d1 hl hat hX hby hlen hp9 hr9 hu8 hn
    go_enter Try.func29, Try.ntmps29
    go_wp2_with (first
      | (go_at_call 71; (with_reducible refine HTH.out.mono ?_); rintro r1 w1' ⟨rfl, hq⟩; have hq := hq.symm; subst hq)
      | (go_at_call 68; (with_reducible refine HSH.out.mono ?_); rintro r1 w1' ⟨rfl, hq⟩; have hq := hq.symm; subst hq))
    go_region_held3 (fun w' => w'.cell? ⟨p, r * 2, none⟩ = some (.int .i64 at_) ∧ w'.cell? ⟨p, r * 2 + 1, none⟩ = some (.slice X n c)) (go_keep) (first
      | (go_at_call 69; (with_reducible refine (clone_any X n c l _ (by exact byt_keep HBY.out ((Chg.refl _ _).drew)) (by omega)).mono ?_); rintro r2 w2 ⟨A2, cc, rfl, hln, t2⟩; have k0 := (t2.chg.cell (p := ⟨p, r * 2, none⟩) b0 id).trans p0; have k1 := (t2.chg.cell (p := ⟨p, r * 2 + 1, none⟩) b0 id).trans p1; have HT2 := Lib.hid t2; have HLN := Lib.hid hln; clear t2 hln))
    go_wp2_with fail
    exact bodyPost_ret (v := .tuple #[.slice A2 n cc, .int .i64 at_, .int .i64 0]) (by simp [results, Try.results29, go_sem]) rfl ⟨A2, n, cc, rfl, HLN.out, HT2.out.drewl⟩
  · have d1 : decide (0 ≤ num ∧ num < A.n) = false := by simpa using c1
    rw [d1] at HTH
    have a1 : A.getA num = 0 := if_neg c1
    have a2 : A.getE num = 61 := if_neg c1
    have a3 : A.getD num = [] := if_neg c1
    rw [a1, a2, a3]
    clear h hh a1 a2 a3 c1 d1
    go_enter Try.func29, Try.ntmps29
    go_wp2_with (first
      | (go_at_call 71; (with_reducible refine HTH.out.mono ?_); rintro r1 w1' ⟨rfl, hq⟩; have hq := hq.symm; subst hq))
    refine bodyPost_ret (v := .tuple #[.slice none 0 0, .int .i64 0, .int .i64 61]) (by simp [results, Try.results29, go_sem]) rfl ?_
    exact ⟨none, 0, 0, rfl, rfl, ⟨Chg.refl _ _, World.ownsRow_nil _ _ _ _, fun b hb => by cases hb⟩⟩
theorem Is.looks (h : Bk.Is P b A) {d : Nat} (hd : wdF A.n = 2 ^ d) (a : Int) : lkF b.wd b.tp a d 1 = lkR A.at_ a d 0 := by
  have hr := wdF_rng h.ok.n1 h.ok.n64
  have h1 := looks_eq lkF (fun _ _ _ _ => rfl) (fun _ _ _ _ _ => rfl) h.ok.tr (fun i => (h.ok.a0 i).1) a d 1 0 (by rw [h.ok.wd, h.n, hd]; omega) (by rw [h.ok.wd, h.n, hd]; omega)
  rw [h1, h.at_]
theorem looks_any (h : Bk.Is P b A) (hh : (Hp.Own.both P.own b.own).holds w) (a : Int) {d : Nat} (hd6 : d ≤ 6) (hd : wdF A.n = 2 ^ d) :
    Calls Try.prog 14 #[.pointer (some ⟨b.g, 0, none⟩), .int .i64 a] w fun e w' => e = .returned (.int .i64 (lkR A.at_ (max a 0) d 0)) ∧ w' = w := by
  have hr := wdF_rng h.ok.n1 h.ok.n64
  have HL := Lib.hid (looks_rec b.g b.wd b.tp (max a 0) w (bk_wd hh.2.1.1) (fun i hi => bk_tp hh.2.1.1 hi) (by rw [h.ok.wd]; omega) d 1 hd6 (by omega) (by omega) (by rw [h.ok.wd, h.n, hd]; omega))
  rw [Is.looks h hd, show ((1 : Nat) : Int) = 1 from rfl] at HL
  clear h hh hr
  go_enter Try.func14, Try.ntmps14
  go_wp2_with (first
    | (go_at_call 70; (with_reducible refine HL.out.mono ?_); rintro r1 w1' ⟨rfl, hq⟩; have hq := hq.symm; subst hq))
  go_ret
  exact ⟨rfl, rfl⟩
end
end Go.Proofs.Ytmpkjfengfgagaa.Bk
