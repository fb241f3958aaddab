/- OplogRange: acts, what they do; small facts of its walk. -/
import Derived.Test.YtpaaghbmlenlfaaOlRa
import Derived.Test.YtpaaghbmlenlfaaOpn
import Derived.Laws.EntriesVeiled
import Derived.Deep.DeepCutAuto
namespace Go.Proofs.Ytpaaghbmlenlfaa.Ol
open Go.Shelf
open Go.RowKit Go.Hp
attribute [local go_sem] min2_lean min_two max2_lean max_two
set_option linter.unusedSimpArgs false
set_option linter.unusedVariables false
set_option maxRecDepth 100000
attribute [local go_sem] Oper.semAt_some run_func_eq
structure AcE where
  kd : Int
  lg : Int
  op : Int
  mo : Int
  e : En
  l : List En
def EnR : Rd En := fun _ cs e => cs = e.cells
theorem EnR.keeps : Rd.Keeps EnR := fun h _ => h
def ActR : Rd AcE := fun w cs a => ∃ v, cs = [.int .i64 a.kd, .int .i64 a.lg, .int .i64 a.op, .int .i64 a.mo] ++ a.e.cells ++ [v] ∧ SlR 7 72 EnR w [v] a.l
theorem ActR.keeps : Rd.Keeps ActR := fun h hc => by
  obtain ⟨v, h1, h2⟩ := h
  exact ⟨v, h1, SlR.keeps (R := EnR) (fun h _ => h) h2 hc⟩
theorem EnS.of_sl {w : World} {A : Option Addr} {n c : Nat} {l : List En} (h : SlR 7 72 EnR w [.slice A n c] l) : EnS w A l := fun i e hi => by
  obtain ⟨hl, rfl⟩ := List.getElem?_eq_some_iff.1 hi
  obtain ⟨b, off, ha, hb, ds, h1, h2, h3⟩ := h.at_ hl
  have h2 : ds = l[i].cells := h2
  subst h2
  exact ⟨b, off, ha, hb, h3⟩
/-- A place among n. -/
def am (i n : Int) : Int := if i.tmod n < 0 then i.tmod n + n else i.tmod n
theorem am_bd (i n : Int) (h : 1 ≤ n) : 0 ≤ am i n ∧ am i n < n := by
  have h1 := Int.tmod_lt_of_pos i (b := n) (by omega)
  have h2 := Int.lt_tmod_of_pos i (b := n) (by omega)
  unfold am
  split <;> omega
/-- One act. -/
def aStep (m : Nat) (A : Ab) (k : Int) (a : AcE) : Ab := if k = 0 then (aAdd m A a.e).2 else if k = 1 then (aCut A a.op).2 else if k = 2 then (aReset m A a.op a.l).2 else A
theorem range_no (room : Int) (A1 A2 : Option Addr) (n1 c1 n2 c2 : Nat) (w : World) (h : room < 1 ∨ 64 < room) :
    Calls Try.prog 10 #[.int .i64 room, .slice A1 n1 c1, .slice A2 n2 c2] w fun e w' => e = .returned (.bool true) ∧ Below w.heap.size w w' := by
  go_enter Try.func10, Try.ntmps10
  go_wp2_with (first
    | (go_at_call 21; refine (new_no room _ h).mono ?_; rintro r w1 ⟨rfl, rfl⟩)
    | (go_at_call 28; refine (rnew_no room _ h).mono ?_; rintro r w1 ⟨rfl, rfl⟩))
  refine bodyPost_ret (v := .bool true) (by simp [results, Try.results10, go_sem]) rfl ⟨rfl, ?_⟩
  exact (((((Chg.refl (fun _ => False) w).alloc _).alloc _).alloc _).alloc _).below (fun _ h => h.elim) (Nat.le_refl _)
/-- The boxes of the range's caller, as it begins. -/
def R0 (bT bR bX bY : Nat) (T : Value) (gx gy : Nat) : Nat → Hp.Own
  | 0 => Hp.Own.blk bT #[T] 43
  | 1 => Hp.Own.blk bR #[.bool false] 4
  | 2 => Hp.Own.blk bX #[.pointer (some ⟨gx, 0, none⟩)] 44
  | 3 => Hp.Own.blk bY #[.pointer (some ⟨gy, 0, none⟩)] 59
  | _ => Hp.Own.emp
theorem SlR.keepTo {w W : World} {O : Hp.Own} {A : Option Addr} {n c : Nat} {l : List En} (h : SlR 7 72 EnR w [.slice A n c] l) (t : Turns w W Hp.Own.emp O) : SlR 7 72 EnR W [.slice A n c] l := SlR.keeps (R := EnR) (fun h _ => h) h (t.chg.mono fun _ _ h => h.elim)
theorem ne4 {g s : Nat} (h : g < s) : s ≠ g ∧ s + 1 ≠ g ∧ g ≠ s ∧ g ≠ s + 1 := by omega
theorem ne1 {g s : Nat} (h : s + 1 ≤ g) : s ≠ g ∧ g ≠ s := by omega
theorem ne2 {g s : Nat} (h : s + 1 + 1 ≤ g) : s ≠ g ∧ s + 1 ≠ g ∧ g ≠ s ∧ g ≠ s + 1 := by omega
theorem box_d {w1 w2 : World} {u : Value} {T : TypeId} {O : Hp.Own} (h : Turns (w1.alloc (.cells #[u] T)).drew w2 Hp.Own.emp O) : w2.cell? ⟨w1.heap.size, 0, none⟩ = some u ∧ w2.frozen? ⟨w1.heap.size, 0, none⟩ = false := by
  have hb := Blk.chg (Blk.new w1 #[u] T).drew h.chg (fun h => h)
  exact ⟨hb.cell 0, hb.frozen 0⟩
theorem box_dd {w1 w2 : World} {u u' : Value} {T T' : TypeId} {O : Hp.Own} (h : Turns ((w1.alloc (.cells #[u] T)).alloc (.cells #[u'] T')).drew w2 Hp.Own.emp O) : w2.cell? ⟨w1.heap.size, 0, none⟩ = some u ∧ w2.frozen? ⟨w1.heap.size, 0, none⟩ = false ∧ w2.cell? ⟨w1.heap.size + 1, 0, none⟩ = some u' ∧ w2.frozen? ⟨w1.heap.size + 1, 0, none⟩ = false := by
  have hb := Blk.chg ((Blk.new w1 #[u] T).alloc _).drew h.chg (fun h => h)
  have hb2 := Blk.chg (Blk.new (w1.alloc (.cells #[u] T)) #[u'] T').drew h.chg (fun h => h)
  rw [World.size_alloc] at hb2
  exact ⟨hb.cell 0, hb.frozen 0, hb2.cell 0, hb2.frozen 0⟩
theorem old_cells {W wA : World} {O : Hp.Own} {y g : Nat} {u u' : Value} (h1 : W.cell? ⟨y, 0, none⟩ = some u) (h2 : W.cell? ⟨g, 1, none⟩ = some u') (l1 : y < W.heap.size) (l2 : g < W.heap.size) (t : Turns W.drew wA Hp.Own.emp O) : wA.cell? ⟨y, 0, none⟩ = some u ∧ wA.cell? ⟨g, 1, none⟩ = some u' ∧ True :=
  ⟨(t.chg.cell (p := ⟨y, 0, none⟩) l1 id).trans h1, (t.chg.cell (p := ⟨g, 1, none⟩) l2 id).trans h2, trivial⟩
theorem box_more {s : Nat} {wA : World} {u : Value} (h : s + 1 ≤ wA.heap.size) (h1 : wA.cell? ⟨s, 0, none⟩ = some u) (h2 : wA.frozen? ⟨s, 0, none⟩ = false) :
    (∀ o, (wA.alloc o).cell? ⟨s, 0, none⟩ = some u) ∧ (∀ o, (wA.alloc o).frozen? ⟨s, 0, none⟩ = false) ∧ s ≠ wA.heap.size ∧ wA.heap.size ≠ s :=
  ⟨fun o => (World.cell?_alloc_lt _ _ _ (show s < wA.heap.size by omega)).trans h1, fun o => ((((Chg.refl (fun _ => False) wA).alloc o).frozen (p := ⟨s, 0, none⟩) (show s < wA.heap.size by omega) id)).trans h2, by omega, by omega⟩
theorem ne5 {y g s a : Nat} (h : y < s) (h2 : g < s) (h3 : s ≤ a) : a ≠ y ∧ a + 1 ≠ y ∧ a ≠ g ∧ a + 1 ≠ g := by omega
theorem box_after {w1 w2 : World} {u : Value} {T : TypeId} {O : Hp.Own} (h : Turns (w1.alloc (.cells #[u] T)) w2 Hp.Own.emp O) : w1.heap.size < w2.heap.size ∧ w2.cell? ⟨w1.heap.size, 0, none⟩ = some u ∧ ∀ o, (w2.alloc o).cell? ⟨w1.heap.size, 0, none⟩ = some u := by
  have h1 := h.chg.size
  rw [World.size_alloc] at h1
  have h2 : w2.cell? ⟨w1.heap.size, 0, none⟩ = some u := Blk.cell (Blk.chg (Blk.new w1 #[u] T) h.chg (fun h => h)) 0
  exact ⟨by omega, h2, fun o => (World.cell?_alloc_lt _ _ _ (show w1.heap.size < w2.heap.size by omega)).trans h2⟩
theorem fam_put {ι : Type} [DecidableEq ι] {F : ι → Hp.Own} {w W : World} {O A : Hp.Own} (i : ι) (hi : F i = Hp.Own.emp) (h : Turns w W O (Hp.Own.both A (Hp.Own.fam F))) : Turns w W O (Hp.Own.fam (upd F i A)) :=
  h.swap.trans (Own.fam_take i hi h.swap.now)
theorem to_fam {w wa w1 w2 : World} {gx pbx gy m : Nat} {A : Ab} {v T : Value} (hwa : wa = (w.alloc (.cells #[T] 43)).alloc (.cells #[.bool false] 4)) (t1 : Turns wa w1 Hp.Own.emp (pO gx pbx m A)) (t2 : Turns (w1.alloc (.cells #[.pointer (some ⟨gx, 0, none⟩)] 44)) w2 Hp.Own.emp (qO gy m v A)) :
    Turns w (w2.alloc (.cells #[.pointer (some ⟨gy, 0, none⟩)] 59)) Hp.Own.emp (fO gx pbx gy m A A v (R0 w.heap.size (w.heap.size + 1) w1.heap.size w2.heap.size T gx gy)) := by
  have h0 : Turns w w Hp.Own.emp (Hp.Own.fam fun _ : RI => Hp.Own.emp) := ⟨Chg.refl _ _, ⟨fun _ => trivial, fun _ _ _ h => h.elim⟩, fun b hb => by obtain ⟨_, h⟩ := hb; exact h.elim⟩
  have s1 := fam_put (.o 0) rfl (h0.pushT (Turns.blk_new w #[T] 43))
  have s2 := fam_put (.o 1) (by simp [upd]) (s1.pushT (Turns.blk_new (w.alloc (.cells #[T] 43)) #[.bool false] 4))
  rw [← hwa] at s2
  have s3 := fam_put .x (by simp [upd]) (s2.pushT t1)
  have s4 := fam_put (.o 2) (by simp [upd]) (s3.pushT (Turns.blk_new w1 #[.pointer (some ⟨gx, 0, none⟩)] 44))
  have s5 := fam_put .y (by simp [upd]) (s4.pushT t2)
  have s6 := fam_put (.o 3) (by simp [upd]) (s5.pushT (Turns.blk_new w2 #[.pointer (some ⟨gy, 0, none⟩)] 59))
  rw [World.size_alloc] at s6
  refine s6.to (Own.fam_as fun i => ?_)
  cases i with
  | x => simp [upd, fam]
  | y => simp [upd, fam]
  | o j => match j with
    | 0 => simp [upd, fam, R0]
    | 1 => simp [upd, fam, R0]
    | 2 => simp [upd, fam, R0]
    | 3 => simp [upd, fam, R0]
    | _ + 4 => simp [upd, fam, R0]
/-- What the logs say behind j acts. -/
def stt (m : Nat) (A : Ab) (acts : List AcE) : Nat → Ab
  | 0 => A
  | j + 1 => match acts[j]? with
    | some a => aStep m (stt m A acts j) (am a.kd 3) a
    | none => stt m A acts j
theorem aStep_ok {m : Nat} {A : Ab} (h : A.Ok m) (k : Int) (a : AcE) : (aStep m A k a).Ok m := by
  unfold aStep
  split
  · exact aAdd_ok h _
  · split
    · exact aCut_ok h _
    · split
      · exact aReset_ok h _ _
      · exact h
theorem stt_ok {m : Nat} {A : Ab} (h : A.Ok m) (acts : List AcE) : ∀ j, (stt m A acts j).Ok m
  | 0 => h
  | j + 1 => by
    unfold stt
    split
    · exact aStep_ok (stt_ok h acts j) _ _
    · exact stt_ok h acts j
theorem stt_end {m : Nat} {A : Ab} {acts : List AcE} {j : Nat} (h : acts.length ≤ j) : stt m A acts (j + 1) = stt m A acts j := by
  rw [stt, List.getElem?_eq_none h]
theorem stt_next {m : Nat} {A : Ab} {acts : List AcE} {j : Nat} {a : AcE} (h : acts[j]? = some a) : stt m A acts (j + 1) = aStep m (stt m A acts j) (am a.kd 3) a := by
  rw [stt, h]
theorem ba_inj {a b : ByteArray} (h : a.toList = b.toList) : a = b := by
  rw [ByteArray.toList_eq, ByteArray.toList_eq] at h
  obtain ⟨x⟩ := a
  obtain ⟨y⟩ := b
  exact congrArg ByteArray.mk (Array.ext' h)
theorem en_form {a1 a2 a3 : Int} {a4 a5 : ByteArray} {a6 a7 b1 b2 b3 : Int} {b4 b5 : ByteArray} {b6 b7 : Int} (h : (⟨a1, a2, a3, a4, a5, a6, a7⟩ : En) ≠ ⟨b1, b2, b3, b4, b5, b6, b7⟩) :
    a1 = b1 → a2 = b2 → a3 = b3 → a4.toList = b4.toList → a5.toList = b5.toList → a6 = b6 → ¬ a7 = b7 := by
  rintro rfl rfl rfl h4 h5 rfl rfl
  exact h (by rw [ba_inj h4, ba_inj h5])
theorem among_any (i : Int) (n : Nat) (w : World) (h : 1 ≤ n) (h4 : n ≤ 1048576) : Calls Try.prog 32 #[.int .i64 i, .int .i64 n] w fun e w' => e = .returned (.int .i64 (am i n)) ∧ w' = w := by
  have h1 := Int.tmod_lt_of_pos i (b := (n : Int)) (by omega)
  have h2 := Int.lt_tmod_of_pos i (b := (n : Int)) (by omega)
  have hn : ((n : Int) == 0) = false := by simp; omega
  have hn1 : decide ((n : Int) < 1) = false := by simp; omega
  have hb1 : (1 : Int) ≤ (n : Int) := by omega
  have hb2 : (n : Int) ≤ 1048576 := by omega
  by_cases hneg : i.tmod n < 0
  · have hd : decide (i.tmod n < 0) = true := by simpa using hneg
    have HA := Lib.hid (show am i n = i.tmod n + n by unfold am; rw [if_pos hneg])
    generalize (n : Int) = N at *
    go_enter Try.func32, Try.ntmps32
    go_wp2_with fail
    go_ret
    rw [HA.out]
    exact ⟨rfl, rfl⟩
  · have hd : decide (i.tmod n < 0) = false := by simpa using hneg
    have HA := Lib.hid (show am i n = i.tmod n by unfold am; rw [if_neg hneg])
    generalize (n : Int) = N at *
    go_enter Try.func32, Try.ntmps32
    go_wp2_with fail
    go_ret
    rw [HA.out]
    exact ⟨rfl, rfl⟩
/-- What the next is. -/
theorem upA_get {A : Ab} {k n : Nat} (h : k < n) : (upA A n)[k]? = some (A.1 + 1 + (k : Int), A.2.getD k default) := by simp [upA, h]
theorem upA_next {A : Ab} {pre : List (Int × En)} {n : Nat} (h : pre <+: upA A n) (hl : pre.length < n) : pre ++ [(A.1 + 1 + (pre.length : Int), A.2.getD pre.length default)] <+: upA A n := by
  obtain ⟨r, hr⟩ := h
  cases r with
  | nil =>
    have := congrArg List.length hr
    rw [List.append_nil, upA_len] at this
    omega
  | cons x r =>
    have h1 : (upA A n)[pre.length]? = some x := by rw [← hr]; simp
    rw [upA_get hl] at h1
    cases h1
    exact ⟨r, by rw [← hr]; simp⟩
theorem upA_off {A : Ab} {pre : List (Int × En)} {n : Nat} {x : Int × En} (hl : pre.length < n) (hx : x ≠ (A.1 + 1 + (pre.length : Int), A.2.getD pre.length default)) : ¬ pre ++ [x] <+: upA A n := by
  rintro ⟨r, hr⟩
  have h1 : (upA A n)[pre.length]? = some x := by rw [← hr]; simp
  rw [upA_get hl] at h1
  cases h1
  exact hx rfl
theorem celled_upd {R : Nat → Hp.Own} (h : ∀ j, Celled (R j)) (k : Nat) {A : Hp.Own} (hA : Celled A) : ∀ j, Celled (upd R k A j) := fun j => by
  unfold upd
  split
  · exact hA
  · exact h j
theorem celled_R0 (bT bR bX bY : Nat) (T : Value) (gx gy : Nat) : ∀ j, Celled (R0 bT bR bX bY T gx gy j)
  | 0 => celled_blk _ _ _
  | 1 => celled_blk _ _ _
  | 2 => celled_blk _ _ _
  | 3 => celled_blk _ _ _
  | _ + 4 => celled_emp
theorem celled_qO (g m : Nat) (v : Value) (A : Ab) : Celled (qO g m v A) := celled_both (celled_blk _ _ _) (celled_row _ _ _ _ _)
theorem turns_keep {O : Hp.Own} {w X Y : World} {B : Nat} {row : Option Nat} (hc : Celled O) (hw : w.heap.size ≤ B) (h : Turns w X Hp.Own.emp O) (hg : X.grownBy Y row) (hr : ∀ r, row = some r → B ≤ r ∧ ∃ o : Obj, X.heap[r]? = some o ∧ o.isCells = false) : Turns w Y Hp.Own.emp O := by
  refine ⟨⟨hg.os.trans h.chg.os, hg.tape.trans h.chg.tape, hg.output.trans h.chg.output, Nat.le_trans h.chg.size hg.size, fun k hk _ => ?_⟩, Celled.keep hc h.now hg (fun r e => (hr r e).2), h.near⟩
  rw [hg.block k (Nat.lt_of_lt_of_le hk h.chg.size) (fun e => by have := (hr k e.symm).1; omega)]
  exact h.chg.block k hk (fun h => h)
theorem keeps_turns {O O' : Hp.Own} {W W' : World} {B : Nat} (hc : Celled O) (hO : O.holds W) (t : Turns W W' O O') : KeepsFrom B W W' :=
  ⟨t.chg.size, fun k o _ h0 ho => by
    rw [t.chg.block k (Array.getElem?_eq_some_iff.1 h0).1 (fun hf => by
      obtain ⟨cs, T, hb⟩ := hc W hO k hf
      unfold Blk at hb
      rw [hb] at h0
      cases h0
      cases ho)]
    exact h0⟩
/-- The box of a loop's variable, newer than the loop, apart from the document's list. -/
def Vbx (n gy : Nat) (W : World) (Bx : Nat) (cs : Array Value) (T : TypeId) : Prop := n ≤ Bx ∧ ¬ pts W ⟨gy, 2, none⟩ Bx ∧ Blk W Bx cs T
theorem Vbx.keep {n gy : Nat} {X Y : World} {Bx : Nat} {cs : Array Value} {T : TypeId} {row : Option Nat} (h : Vbx n gy X Bx cs T) (hgy : gy < n) (hgX : gy < X.heap.size) (hg : X.grownBy Y row) (hr : ∀ r, row = some r → n ≤ r ∧ ∃ o : Obj, X.heap[r]? = some o ∧ o.isCells = false) : Vbx n gy Y Bx cs T := by
  obtain ⟨h1, h2, h3⟩ := h
  refine ⟨h1, fun hp => h2 (pts_of_block (hg.block gy hgX (fun e => by have := (hr gy e.symm).1; omega)) Bx hp), ?_⟩
  unfold Blk at *
  rw [hg.block Bx (Blk.lt h3) (fun e => by
    obtain ⟨o, a1, a2⟩ := (hr Bx e.symm).2
    rw [h3] at a1
    cases a1
    cases a2)]
  exact h3
theorem pts_lt {gx pbx gy m : Nat} {Ax Ay : Ab} {v : Value} {R : Nat → Hp.Own} {W : World} (h : (fO gx pbx gy m Ax Ay v R).holds W) (b : Nat) (hb : pts W ⟨gy, 2, none⟩ b) : b < W.heap.size := by
  have hy := fO_hy h
  have c2 := (rO_cells hy).2.2
  obtain ⟨ad, k, c, e, rfl⟩ := hb
  rw [c2] at e
  cases e
  refine Hp.Own.lt _ hy.2.1 _ ?_
  rcases hy.2.1.2 with ⟨hv, _⟩ | ⟨g, cap, cur, hv, _⟩
  · cases hv
  · cases hv; rfl
theorem boxes {gx pbx gy m gc bT bR bX bY bC bF b14 b15 bI : Nat} {Ax Ay A : Ab} {v vc T fv : Value} {i : Int} {R0' R1 R2 : Nat → Hp.Own} {W : World} (hR0 : R0' = R0 bT bR bX bY T gx gy) (hR1 : R1 = upd (upd R0' 8 (Hp.Own.blk bC #[.pointer (some ⟨gx, 0, none⟩)] 44)) 4 (Hp.Own.blk bF #[fv] 63))
    (hR2 : R2 = upd (upd (upd R1 9 (qO gc m vc A)) 5 (Hp.Own.blk b14 #[.int .i64 A.1] 3)) 6 (Hp.Own.blk b15 #[vc] 52)) (h : (fO gx pbx gy m Ax Ay v (upd R2 7 (Hp.Own.blk bI #[.int .i64 i] 3))).holds W) :
    Blk W bT #[T] 43 ∧ Blk W bR #[.bool false] 4 ∧ Blk W bX #[.pointer (some ⟨gx, 0, none⟩)] 44 ∧ Blk W bY #[.pointer (some ⟨gy, 0, none⟩)] 59 ∧ Blk W bF #[fv] 63 ∧ Blk W b14 #[.int .i64 A.1] 3 ∧ Blk W b15 #[vc] 52 ∧ Blk W bI #[.int .i64 i] 3 ∧ Blk W bC #[.pointer (some ⟨gx, 0, none⟩)] 44 ∧ (qO gc m vc A).holds W := by
  subst hR0 hR1 hR2
  exact ⟨by have h0 := fO_ho 0 h; simp [upd, R0] at h0; exact h0, by have h0 := fO_ho 1 h; simp [upd, R0] at h0; exact h0, by have h0 := fO_ho 2 h; simp [upd, R0] at h0; exact h0, by have h0 := fO_ho 3 h; simp [upd, R0] at h0; exact h0, by have h0 := fO_ho 4 h; simp [upd, R0] at h0; exact h0, by have h0 := fO_ho 5 h; simp [upd, R0] at h0; exact h0, by have h0 := fO_ho 6 h; simp [upd, R0] at h0; exact h0, by have h0 := fO_ho 7 h; simp [upd, R0] at h0; exact h0, by have h0 := fO_ho 8 h; simp [upd, R0] at h0; exact h0, by have h0 := fO_ho 9 h; simp [upd, R0] at h0; exact h0⟩
theorem upd_twice {R : Nat → Hp.Own} (k : Nat) (A B : Hp.Own) : upd (upd R k A) k B = upd R k B := by funext j; unfold upd; split <;> rfl
theorem bump {gx pbx gy m bI : Nat} {Ax Ay : Ab} {v : Value} {R2 : Nat → Hp.Own} {W : World} {i : Int} (j : Int) (h : (fO gx pbx gy m Ax Ay v (upd R2 7 (Hp.Own.blk bI #[.int .i64 i] 3))).holds W) :
    Turns W (W.setCell ⟨bI, 0, none⟩ (.int .i64 j)) (fO gx pbx gy m Ax Ay v (upd R2 7 (Hp.Own.blk bI #[.int .i64 i] 3))) (fO gx pbx gy m Ax Ay v (upd R2 7 (Hp.Own.blk bI #[.int .i64 j] 3))) := by
  have hb : Blk W bI #[.int .i64 i] 3 := by have h0 := fO_ho 7 h; simp [upd] at h0; exact h0
  have t := fO_o 7 h (O' := Hp.Own.blk bI #[.int .i64 j] 3) (by
    have := Turns.blk_set hb 0 (.int .i64 j)
    have e : upd R2 7 (Hp.Own.blk bI #[.int .i64 i] 3) 7 = Hp.Own.blk bI #[.int .i64 i] 3 := by simp [upd]
    rw [e]
    exact this)
  rw [upd_twice] at t
  exact t
theorem round_kept {gx pbx gy m bI : Nat} {A0 Ax Ay Ax' Ay' : Ab} {v0 v v' : Value} {R2 : Nat → Hp.Own} {W0 W W' : World} {i j : Int} (h0 : (fO gx pbx gy m A0 A0 v0 (upd R2 7 (Hp.Own.blk bI #[.int .i64 0] 3))).holds W0) (hc : ∀ j, Celled (R2 j))
    (hW : (fO gx pbx gy m Ax Ay v (upd R2 7 (Hp.Own.blk bI #[.int .i64 i] 3))).holds W) (t : Turns W W' (fO gx pbx gy m Ax Ay v (upd R2 7 (Hp.Own.blk bI #[.int .i64 i] 3))) (fO gx pbx gy m Ax' Ay' v' (upd R2 7 (Hp.Own.blk bI #[.int .i64 j] 3)))) :
    KeepsFrom W0.heap.size W W' ∧ Kpt W0.heap.size ⟨gy, 2, none⟩ W W' := by
  have hp := fO_hx h0
  refine ⟨keeps_turns (celled_fO _ _ _ _ _ _ _ _ (celled_upd hc 7 (celled_blk _ _ _))) hW t, kpt_fO t hW ⟨Hp.Own.lt _ hp gx (Or.inl rfl), Hp.Own.lt _ hp pbx (Or.inr rfl), Blk.lt (fO_hy h0).1⟩ (fun k b hb => ?_) (fun k b hb => ?_)⟩
  · refine Hp.Own.lt _ (fO_ho k h0) b ?_
    unfold upd at hb ⊢
    split at hb
    · rename_i e; rw [if_pos e]; exact hb
    · rename_i e; rw [if_neg e]; exact hb
  · unfold upd at hb ⊢
    split at hb
    · rename_i e; rw [if_pos e]; exact hb
    · rename_i e; rw [if_neg e]; exact hb
theorem keeps_drew {B : Nat} {W X : World} (h : KeepsFrom B W.drew X) : KeepsFrom B W X := ⟨h.size, h.same⟩
/-- All ways through a statement meet: one frame, a world of which R holds. -/
theorem cut_in {F : Fence} {n : Nat} {P : Program} {c : Code} {Q : Exit → Act → World → Prop} {a : Act} {w : World} (A5 : Act) (R : World → Prop) (h : c.wpIn F n P (fun e a' w' => e = Exit.normal ∧ a' = A5 ∧ R w') a w) (k : ∀ w', R w' → Q .normal A5 w') : c.wpIn F n P Q a w :=
  wpIn_mono h fun e a' w' hq => by obtain ⟨rfl, rfl, hr⟩ := hq; exact k w' hr
theorem turns_keep2 {O0 O : Hp.Own} {w X Y : World} {B : Nat} {row : Option Nat} (hc : Celled O) (hw : w.heap.size ≤ B) (h : Turns w X O0 O) (hg : X.grownBy Y row) (hr : ∀ r, row = some r → B ≤ r ∧ ∃ o : Obj, X.heap[r]? = some o ∧ o.isCells = false) : Turns w Y O0 O := by
  refine ⟨⟨hg.os.trans h.chg.os, hg.tape.trans h.chg.tape, hg.output.trans h.chg.output, Nat.le_trans h.chg.size hg.size, fun k hk hn => ?_⟩, Celled.keep hc h.now hg (fun r e => (hr r e).2), h.near⟩
  rw [hg.block k (Nat.lt_of_lt_of_le hk h.chg.size) (fun e => by have := (hr k e.symm).1; omega)]
  exact h.chg.block k hk hn
theorem kpt_set {n gy b : Nat} {W : World} {v : Value} (hb : b < n) (hne : gy ≠ b) : Kpt n ⟨gy, 2, none⟩ W (W.setCell ⟨b, 0, none⟩ v) :=
  ⟨by simp [World.setCell], fun c cs T hn hc _ => hc.set_ne (a := ⟨b, 0, none⟩) (show c ≠ b by omega) v, fun c hc => Or.inl (pts_of_block (Below.heap_setCell _ _ _ _ hne) c hc)⟩
theorem kpt_drew {n : Nat} {a : Addr} {W X : World} (h : Kpt n a W.drew X) : Kpt n a W X := ⟨h.size, h.keep, h.pts⟩
/-- An argument's entries lie in no block of what is newer. -/
theorem sl_far {w W : World} {O : Hp.Own} {A : Option Addr} {n c : Nat} {l : List En} (h : SlR 7 72 EnR w [.slice A n c] l) (t : Turns w W Hp.Own.emp O) : EnS W A l ∧ ∀ b off, A = some ⟨b, off, none⟩ → 0 < l.length → ¬ O.foot b := by
  refine ⟨EnS.of_sl (SlR.keepTo h t), fun b off ha h0 hf => ?_⟩
  obtain ⟨b', off', ha', hb', _⟩ := h.at_ h0
  rw [ha] at ha'
  cases ha'
  have := (t.near b hf).elim (fun h => h.elim) (fun h => h)
  omega
end Go.Proofs.Ytpaaghbmlenlfaa.Ol
