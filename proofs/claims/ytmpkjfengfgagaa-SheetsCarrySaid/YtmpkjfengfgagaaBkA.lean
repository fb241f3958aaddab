/- Package sheets: a book's cells; New. -/
import Derived.Test.YtmpkjfengfgagaaProg
import Derived.Test.YtmpkjfengfgagaaNt
import Derived.Test.YtmpkjfengfgagaaKp
import Derived.WalkKit
import Derived.ProofKit
import Derived.Deep.QuietTactic
import Derived.Deep.RegionHeld3
import Derived.Deep.RegionLaw
import Derived.Lib.Hide
import Derived.OwnWalk
import Derived.WalkSpells
namespace Go.Proofs.Ytmpkjfengfgagaa.Bk
open Go.RowKit Go.Hp
attribute [local go_sem] min2_lean min_two max2_lean max_two
set_option linter.unusedSimpArgs false
set_option linter.unusedVariables false
set_option maxRecDepth 100000
/-- Cells by number. -/
def ofF (k : Nat) (F : Nat → Value) : Array Value := ((List.range k).map F).toArray
theorem ofF_get {k i : Nat} {F : Nat → Value} (h : i < k) : (ofF k F)[i]? = some (F i) := by
  unfold ofF
  rw [List.getElem?_toArray, List.getElem?_map, List.getElem?_range h]
  rfl
theorem ofF_size (k : Nat) (F : Nat → Value) : (ofF k F).size = k := by simp [ofF]
theorem ofF_set {k i : Nat} {F G : Nat → Value} {v : Value} (hv : G i = v) (hG : ∀ j, j < k → j ≠ i → G j = F j) : (ofF k F).setIfInBounds i v = ofF k G := by
  apply Array.ext_getElem?
  intro j
  rw [Array.getElem?_setIfInBounds]
  by_cases hj : j < k
  · by_cases e : i = j
    · subst e
      rw [if_pos rfl, ofF_size, if_pos hj, ofF_get hj, hv]
    · rw [if_neg e, ofF_get hj, ofF_get hj, hG j hj (fun h => e h.symm)]
  · rw [Array.getElem?_eq_none (by rw [ofF_size]; omega)]
    split
    · rename_i e; subst e; rw [ofF_size, if_neg hj]; exact (Array.getElem?_eq_none (by rw [ofF_size]; omega)).symm
    · rw [Array.getElem?_eq_none (by rw [ofF_size]; omega)]
theorem ofF_congr {k : Nat} {F G : Nat → Value} (h : ∀ j, j < k → F j = G j) : ofF k F = ofF k G := by
  unfold ofF
  congr 1
  exact List.map_congr_left fun j hj => h j (List.mem_range.1 hj)
def ptrO (p : Option Nat) : Value := .pointer (p.map fun b => ⟨b, 0, none⟩)
/-- A book's cells. -/
def bkF (n wd : Nat) (pc : Nat → Option Nat) (tp : Nat → Int) (ow : Nat → Bool) (i : Nat) : Value :=
  if i = 0 then .int .i64 n else if i = 1 then .int .i64 wd else if i < 10 then ptrO (pc (i - 2)) else if i < 138 then .int .i64 (tp (i - 10)) else .bool (ow (i - 138))
abbrev bkC (n wd : Nat) (pc : Nat → Option Nat) (tp : Nat → Int) (ow : Nat → Bool) : Array Value := ofF 146 (bkF n wd pc tp ow)
section
variable {w : World} {g n wd : Nat} {pc : Nat → Option Nat} {tp : Nat → Int} {ow : Nat → Bool}
theorem bk_n (h : Blk w g (bkC n wd pc tp ow) 138) : w.cell? ⟨g, 0, none⟩ = some (.int .i64 n) := (h.cell 0).trans (ofF_get (by omega))
theorem bk_wd (h : Blk w g (bkC n wd pc tp ow) 138) : w.cell? ⟨g, 1, none⟩ = some (.int .i64 wd) := (h.cell 1).trans (ofF_get (by omega))
theorem bk_pc (h : Blk w g (bkC n wd pc tp ow) 138) {k : Nat} (hk : k < 8) : w.cell? ⟨g, 2 + k, none⟩ = some (ptrO (pc k)) := by
  refine ((h.cell (2 + k)).trans (ofF_get (by omega))).trans ?_
  simp [bkF, show ¬ 2 + k = 0 by omega, show ¬ 2 + k = 1 by omega, show 2 + k < 10 by omega]
theorem bk_tp (h : Blk w g (bkC n wd pc tp ow) 138) {k : Nat} (hk : k < 128) : w.cell? ⟨g, 10 + k, none⟩ = some (.int .i64 (tp k)) := by
  refine ((h.cell (10 + k)).trans (ofF_get (by omega))).trans ?_
  simp [bkF, show ¬ 10 + k = 0 by omega, show ¬ 10 + k = 1 by omega, show ¬ 10 + k < 10 by omega, show 10 + k < 138 by omega]
theorem bk_ow (h : Blk w g (bkC n wd pc tp ow) 138) {k : Nat} (hk : k < 8) : w.cell? ⟨g, 138 + k, none⟩ = some (.bool (ow k)) := by
  refine ((h.cell (138 + k)).trans (ofF_get (by omega))).trans ?_
  simp [bkF, show ¬ 138 + k = 0 by omega, show ¬ 138 + k = 1 by omega, show ¬ 138 + k < 10 by omega, show ¬ 138 + k < 138 by omega]
theorem bk_set_wd (v : Nat) : (bkC n wd pc tp ow).setIfInBounds 1 (.int .i64 v) = bkC n v pc tp ow :=
  ofF_set (by simp [bkF]) (fun j _ hne => by simp [bkF, hne])
theorem bk_set_pc {k : Nat} (hk : k < 8) (b : Nat) : (bkC n wd pc tp ow).setIfInBounds (2 + k) (.pointer (some ⟨b, 0, none⟩)) = bkC n wd (fun j => if j = k then some b else pc j) tp ow :=
  ofF_set (by simp [bkF, ptrO, show ¬ 2 + k = 0 by omega, show ¬ 2 + k = 1 by omega, show 2 + k < 10 by omega]) (fun j hj hne => by
    by_cases h1 : j < 10
    · by_cases h2 : j < 2
      · obtain rfl | rfl : j = 0 ∨ j = 1 := by omega
        · rfl
        · rfl
      · have : j - 2 ≠ k := by omega
        simp [bkF, this]
    · simp [bkF, h1])
theorem bk_set_tp {k : Nat} (hk : k < 128) (v : Int) : (bkC n wd pc tp ow).setIfInBounds (10 + k) (.int .i64 v) = bkC n wd pc (fun j => if j = k then v else tp j) ow :=
  ofF_set (by simp [bkF, show ¬ 10 + k = 0 by omega, show ¬ 10 + k = 1 by omega, show ¬ 10 + k < 10 by omega, show 10 + k < 138 by omega]) (fun j hj hne => by
    by_cases h1 : j < 10
    · simp [bkF, h1]
    · have : j - 10 ≠ k := by omega
      simp [bkF, h1, this])
theorem bk_set_ow {k : Nat} (hk : k < 8) (v : Bool) : (bkC n wd pc tp ow).setIfInBounds (138 + k) (.bool v) = bkC n wd pc tp (fun j => if j = k then v else ow j) :=
  ofF_set (by simp [bkF, show ¬ 138 + k = 0 by omega, show ¬ 138 + k = 1 by omega, show ¬ 138 + k < 10 by omega, show ¬ 138 + k < 138 by omega]) (fun j hj hne => by
    by_cases h1 : j < 138
    · simp [bkF, h1]
    · have : j - 138 ≠ k := by omega
      simp [bkF, h1, this])
end
/-- A piece's cells. -/
def pcF (at_ : Nat → Int) (dv : Nat → Value) (k i : Nat) : Value := if i % 2 = 0 then .int .i64 (at_ (8 * k + i / 2)) else dv (8 * k + i / 2)
abbrev pcC (at_ : Nat → Int) (dv : Nat → Value) (k : Nat) : Array Value := ofF 16 (pcF at_ dv k)
/-- A book: its block, its pieces (those that are its own), what it says. -/
structure Bk where
  g : Nat
  n : Nat
  wd : Nat
  pc : Nat → Nat
  tp : Nat → Int
  ow : Nat → Bool
  at_ : Nat → Int
  dv : Nat → Value
def Bk.main (b : Bk) : Array Value := bkC b.n b.wd (fun k => some (b.pc k)) b.tp b.ow
def Bk.fam (b : Bk) (k : Nat) : Hp.Own := if k < 8 ∧ b.ow k = true then Hp.Own.blk (b.pc k) (pcC b.at_ b.dv k) 142 else Hp.Own.emp
def Bk.own (b : Bk) : Hp.Own := Hp.Own.both (Hp.Own.blk b.g b.main 138) (Hp.Own.fam b.fam)
theorem new_no (n : Int) (w : World) (h : n < 1 ∨ 64 < n) : Calls Try.prog 12 #[.int .i64 n] w fun e w' => e = .returned (.tuple #[.pointer none, .int .i64 60]) ∧ w' = w := by
  by_cases h1 : n < 1
  · have d1 : decide (n < 1) = true := by simpa using h1
    go_enter Try.func12, Try.ntmps12
    go_wp2_with fail
    exact bodyPost_ret (v := .tuple #[.pointer none, .int .i64 60]) (by simp [results, Try.results12, go_sem]) rfl ⟨rfl, rfl⟩
  · have d1 : decide (n < 1) = false := by simpa using h1
    have d2 : decide (64 < n) = true := by simp; omega
    go_enter Try.func12, Try.ntmps12
    go_wp2_with fail
    exact bodyPost_ret (v := .tuple #[.pointer none, .int .i64 60]) (by simp [results, Try.results12, go_sem]) rfl ⟨rfl, rfl⟩
/-- The width of the tree: doubled till it is enough. -/
def wdF (n : Nat) : Nat := if n ≤ 1 then 1 else if n ≤ 2 then 2 else if n ≤ 4 then 4 else if n ≤ 8 then 8 else if n ≤ 16 then 16 else if n ≤ 32 then 32 else 64
theorem Try.info131 : (Try.prog.info? 131).map (fun i => (i.zero, i.size, i.bytes)) = some (some (.pointer none), 1, 8) := by kernel_rfl
theorem wdF_eq {n e : Nat} (h1 : 1 ≤ n) (h2 : n ≤ 64) (he : e ≤ 6) (hlo : ∀ x, x < e → 2 ^ x < n) (hhi : ¬ 2 ^ e < n) : wdF n = 2 ^ e := by
  have hl : ∀ x, x < e → 2 ^ x < n := hlo
  unfold wdF
  obtain rfl | rfl | rfl | rfl | rfl | rfl | rfl : e = 0 ∨ e = 1 ∨ e = 2 ∨ e = 3 ∨ e = 4 ∨ e = 5 ∨ e = 6 := by omega
  · simp at hhi ⊢; omega
  · have a := hl 0 (by omega); simp at a hhi ⊢; split <;> omega
  · have a := hl 1 (by omega); simp at a hhi ⊢; repeat (split; · omega)
    first | omega | rfl
  · have a := hl 2 (by omega); simp at a hhi ⊢; repeat (split; · omega)
    first | omega | rfl
  · have a := hl 3 (by omega); simp at a hhi ⊢; repeat (split; · omega)
    first | omega | rfl
  · have a := hl 4 (by omega); simp at a hhi ⊢; repeat (split; · omega)
    first | omega | rfl
  · have a := hl 5 (by omega); simp at a hhi ⊢; repeat (split; · omega)
    first | omega | rfl
theorem bk_zero (n : Nat) : (Array.foldl (fun (cs : Array Value) x => cs.setIfInBounds x.snd x.fst) Try.zeroCells138 ((Try.zeroCells135.setIfInBounds 0 (Value.int .i64 n)).setIfInBounds 1 (Value.int .i64 1)).zipIdx 0 138) = bkC n 1 (fun _ => none) (fun _ => 0) (fun _ => false) := by
  kernel_rfl
theorem turn_nil {w : World} {O : Hp.Own} : Turns w w O Hp.Own.emp := ⟨Chg.refl _ _, trivial, fun b hb => hb.elim⟩
theorem fam_lay {ι : Type} [DecidableEq ι] {F : ι → Hp.Own} {w W : World} {O A : Hp.Own} (i : ι) (h : Turns w W O (Hp.Own.both A (Hp.Own.fam F))) : Turns w W O (Hp.Own.fam (upd F i A)) := by
  have h2 := h.at1 (Turns.famE h.n1 i rfl turn_nil)
  have e : upd F i Hp.Own.emp i = Hp.Own.emp := by simp [upd]
  have h3 := h2.swap.trans (Own.fam_take i e h2.swap.now)
  have e2 : upd (upd F i Hp.Own.emp) i A = upd F i A := by
    funext j
    unfold upd
    split <;> rfl
  rw [e2] at h3
  exact h3
theorem fam_nil {ι : Type} (w : World) : Turns w w Hp.Own.emp (Hp.Own.fam fun _ : ι => Hp.Own.emp) := ⟨Chg.refl _ _, ⟨fun _ => trivial, fun _ _ _ h => h.elim⟩, fun b hb => by obtain ⟨_, h⟩ := hb; exact h.elim⟩
/-- While a book is made: i pieces. -/
def nwF (b : Nat → Nat) (i k : Nat) : Hp.Own := if k < i then Hp.Own.blk (b k) (pcC (fun _ => 0) (fun _ => .slice none 0 0) k) 142 else Hp.Own.emp
set_option maxHeartbeats 2000000 in
theorem new_yes (n : Nat) (w : World) (h1 : 1 ≤ n) (h2 : n ≤ 64) : Calls Try.prog 12 #[.int .i64 n] w fun e w' => ∃ (g : Nat) (pc : Nat → Nat), e = .returned (.tuple #[.pointer (some ⟨g, 0, none⟩), .int .i64 0]) ∧
    Turns w w' Hp.Own.emp (Bk.own ⟨g, n, wdF n, pc, fun _ => 0, fun _ => true, fun _ => 0, fun _ => .slice none 0 0⟩) := by
  have d1 : decide ((n : Int) < 1) = false := by simp; omega
  have d2 : decide ((64 : Int) < (n : Int)) = false := by simp; omega
  have d3 : decide (n < 1) = false := by simp; omega
  have d4 : decide (64 < n) = false := by simp; omega
  go_enter Try.func12, Try.ntmps12
  go_wp2_with fail
  rw [bk_zero]
  have HT0 := Lib.hid (Turns.blk_new w (bkC n 1 (fun _ => none) (fun _ => 0) (fun _ => false)) 138)
  obtain ⟨b, hb⟩ : ∃ b, w.heap.size = b := ⟨_, rfl⟩
  rw [hb] at HT0 ⊢
  obtain ⟨W0, hW0⟩ : ∃ W, W = w.alloc (.cells (bkC n 1 (fun _ => none) (fun _ => 0) (fun _ => false)) 138) := ⟨_, rfl⟩
  rw [← hW0] at HT0 ⊢
  clear hW0 hb
  go_loopw [] (fun wr => ∃ e : Nat, e ≤ 6 ∧ (∀ x, x < e → 2 ^ x < n) ∧ Turns w wr Hp.Own.emp (Hp.Own.blk b (bkC n (2 ^ e) (fun _ => none) (fun _ => 0) (fun _ => false)) 138)) (fun wr => 64 - (intOf ((wr.cell? ⟨b, 1, none⟩).getD undef)).toNat)
  case atStart => exact ⟨0, by omega, fun x hx => by omega, HT0.out⟩
  case round =>
    obtain ⟨e, he, hlo, ht⟩ := hrel
    have HT := Lib.hid ht
    have HLO := Lib.hid hlo
    obtain ⟨m, hm⟩ : ∃ m, 2 ^ e = m := ⟨_, rfl⟩
    have hm1 : 1 ≤ m := by rw [← hm]; exact Nat.one_le_two_pow
    have hm64 : m ≤ 64 := by rw [← hm]; exact Nat.pow_le_pow_right (n := 2) (by omega) he
    have HM := Lib.hid hm
    rw [hm] at HT
    have c1 : wr.cell? ⟨b, 1, none⟩ = some (.int .i64 m) := bk_wd HT.out.now
    have f1 : wr.frozen? ⟨b, 1, none⟩ = false := Blk.frozen HT.out.now 1
    clear ht hlo hm
    by_cases hlt : m < n
    · have hd : decide ((m : Int) < (n : Int)) = true := by simp; omega
      have hd' : decide (m < n) = true := by simp; omega
      have hw : IntKind.i64.wrap ((m : Int) * 2) = ((m * 2 : Nat) : Int) := by rw [IntWalk.i64_in _ (by omega)]; omega
      have he6 : e < 6 := by
        have : e ≠ 6 := fun h => by subst h; have := HM.out; omega
        omega
      go_wp2_with fail
      have HT2 := Lib.hid (HT.out.trans (Turns.blk_set HT.out.now 1 (.int .i64 ((m * 2 : Nat) : Int))))
      rw [bk_set_wd] at HT2
      have c2 := bk_wd HT2.out.now
      go_roundw
      case rel =>
        refine ⟨e + 1, by omega, fun x hx => ?_, ?_⟩
        · by_cases hxe : x < e
          · exact HLO.out x hxe
          · have : x = e := by omega
            subst this
            rw [HM.out]
            exact hlt
        · rw [Nat.pow_succ, HM.out]
          exact HT2.out
      case measure =>
        have c3 : (wr.setCell ⟨b, 1, none⟩ (.int .i64 ((m : Int) * 2))).cell? ⟨b, 1, none⟩ = some (.int .i64 ((m : Int) * 2)) := World.cell?_setCell_same' wr ⟨b, 1, none⟩ _ (by rw [c1]; rfl)
        rw [c1, c3]
        simp [intOf]
        omega
    · have hd : decide ((m : Int) < (n : Int)) = false := by simp; omega
      have hd' : decide (m < n) = false := by simp; omega
      have hwd : wdF n = m := by rw [wdF_eq h1 h2 he HLO.out (by rw [HM.out]; exact hlt), HM.out]
      have HWD := Lib.hid hwd
      clear hwd
      go_wp2_with fail
      go_loopw [32] (fun x32 wr => ∃ (i : Nat) (pc : Nat → Nat), x32 = .int .i64 i ∧ i ≤ 8 ∧ Turns w wr Hp.Own.emp (Hp.Own.both (Hp.Own.blk b (bkC n m (fun k => if k < i then some (pc k) else none) (fun _ => 0) (fun k => decide (k < i))) 138) (Hp.Own.fam (nwF pc i)))) (fun x32 _ => 8 - (intOf x32).toNat)
      case atStart =>
        refine ⟨0, fun _ => 0, rfl, by omega, ((fam_nil (ι := Nat) w).pushT HT.out).to ?_⟩
        have e1 : (fun k : Nat => if k < 0 then some ((fun _ => 0 : Nat → Nat) k) else none) = fun _ => none := by funext k; simp
        have e2 : (fun k : Nat => decide (k < 0)) = fun _ => false := by funext k; simp
        have e3 : nwF (fun _ => 0) 0 = fun _ => Hp.Own.emp := by funext k; simp [nwF]
        rw [e1, e2, e3]
      case round =>
        clear c1 f1 HT hlt hd hd' HT0
        obtain ⟨i, pc, rfl, hi, ht⟩ := hrel
        have HT := Lib.hid ht
        clear ht
        by_cases hlt : i < 8
        · have hd : decide ((i : Int) < 8) = true := by simp; omega
          have hd' : decide (i < 8) = true := by simp; omega
          have hi0 : (0 : Int) ≤ (i : Int) := Int.natCast_nonneg _
          have hi1 : (i : Int) < 8 := by omega
          have c1 : wr.cell? ⟨b, 2 + i, none⟩ = some (.pointer none) := by have h := bk_pc HT.out.n0 hlt; simpa [ptrO] using h
          have f1 : wr.frozen? ⟨b, 2 + i, none⟩ = false := Blk.frozen HT.out.n0 _
          have c2 : wr.cell? ⟨b, 138 + i, none⟩ = some (.bool false) := by have h := bk_ow HT.out.n0 hlt; simpa using h
          have f2 : wr.frozen? ⟨b, 138 + i, none⟩ = false := Blk.frozen HT.out.n0 _
          have hbl : b < wr.heap.size := HT.out.b0.lt
          go_wp2_with fail
          refine ⟨⟨i + 1, fun k => if k = i then wr.heap.size else pc k, by simp, by omega, ?_⟩, by simp [intOf]; omega⟩
          have t1 := HT.out.at0 (Turns.blk_set HT.out.n0 (2 + i) (.pointer (some ⟨wr.heap.size, 0, none⟩)))
          rw [bk_set_pc hlt] at t1
          have t2 := t1.at0 (Turns.blk_set t1.n0 (138 + i) (.bool true))
          rw [bk_set_ow hlt] at t2
          have t3 := (t2.push #[.int .i64 0, .slice none 0 0, .int .i64 0, .slice none 0 0, .int .i64 0, .slice none 0 0, .int .i64 0, .slice none 0 0, .int .i64 0, .slice none 0 0, .int .i64 0, .slice none 0 0, .int .i64 0, .slice none 0 0, .int .i64 0, .slice none 0 0] 142).flip
          have hz : ((wr.setCell ⟨b, 2 + i, none⟩ (.pointer (some ⟨wr.heap.size, 0, none⟩))).setCell ⟨b, 138 + i, none⟩ (.bool true)).heap.size = wr.heap.size := by simp [World.setCell]
          rw [hz] at t3
          refine (t3.at1 (fam_lay i (Turns.refl t3.n1))).to ?_
          have e1 : (fun j => if j = i then some wr.heap.size else if j < i then some (pc j) else none) = fun k => if k < i + 1 then some (if k = i then wr.heap.size else pc k) else none := by
            funext k
            by_cases e : k = i
            · subst e; simp
            · have : (k < i) ↔ (k < i + 1) := by omega
              simp [e, this]
          have e2 : (fun j => if j = i then true else decide (j < i)) = fun k => decide (k < i + 1) := by
            funext k
            by_cases e : k = i
            · subst e; simp
            · have : (k < i) ↔ (k < i + 1) := by omega
              simp [e, this]
          have e3 : upd (nwF pc i) i (Hp.Own.blk wr.heap.size #[.int .i64 0, .slice none 0 0, .int .i64 0, .slice none 0 0, .int .i64 0, .slice none 0 0, .int .i64 0, .slice none 0 0, .int .i64 0, .slice none 0 0, .int .i64 0, .slice none 0 0, .int .i64 0, .slice none 0 0, .int .i64 0, .slice none 0 0] 142) = nwF (fun k => if k = i then wr.heap.size else pc k) (i + 1) := by
            funext k
            unfold upd nwF
            by_cases e : k = i
            · subst e
              rw [if_pos rfl, if_pos (by omega)]
              show _ = Hp.Own.blk (if k = k then wr.heap.size else pc k) _ _
              rw [if_pos rfl]
              congr 1
            · have h9 : (k < i) ↔ (k < i + 1) := by omega
              simp only [if_neg e, h9]
          rw [e1, e2, e3]
        · have hd : decide ((i : Int) < 8) = false := by simp; omega
          have hd' : decide (i < 8) = false := by simp; omega
          obtain rfl : i = 8 := by omega
          go_wp2_with fail
          refine bodyPost_ret (v := .tuple #[.pointer (some ⟨b, 0, none⟩), .int .i64 0]) (by simp [results, Try.results12, go_sem]) rfl ⟨b, pc, rfl, HT.out.to ?_⟩
          unfold Bk.own Bk.main
          rw [HWD.out]
          have e1 : bkC n m (fun k => if k < 8 then some (pc k) else none) (fun _ => 0) (fun k => decide (k < 8)) = bkC n m (fun k => some (pc k)) (fun _ => 0) (fun _ => true) := ofF_congr fun j hj => by
            unfold bkF
            by_cases h1 : j < 10
            · by_cases h2 : j < 2
              · obtain rfl | rfl : j = 0 ∨ j = 1 := by omega
                · rfl
                · rfl
              · have h3 : j - 2 < 8 := by omega
                simp [h1, h3]
            · by_cases h2 : j < 138
              · simp [h1, h2]
              · have h3 : j - 138 < 8 := by omega
                simp [h1, h2, h3]
          have e2 : nwF pc 8 = Bk.fam ⟨b, n, m, pc, fun _ => 0, fun _ => true, fun _ => 0, fun _ => .slice none 0 0⟩ := by
            funext k
            simp [nwF, Bk.fam]
          rw [e1, e2]
end Go.Proofs.Ytmpkjfengfgagaa.Bk
