/- Package timers: tables of ints: New, Arm, Cancel, Left. -/
import Derived.Test.YtmpkjfengfgagaaProg
import Derived.Test.YtmpkjfengfgagaaMp
import Derived.Test.YtmpkjfengfgagaaNt
import Derived.Test.YtmpkjfengfgagaaShf
import Derived.Sort.EncStr
import Derived.Sort.OwnSorted
import Derived.Sort.OwnSortedInts
import Derived.WalkKit
import Derived.ProofKit
import Derived.Lib.Hide
import Derived.OwnWalk
import Derived.WalkSpells
import Derived.WalkLawsBesides
namespace Go.Proofs.Ytmpkjfengfgagaa.Ti
open Go.RowKit Go.Hp
attribute [local go_sem] min2_lean min_two max2_lean max_two
set_option linter.unusedSimpArgs false
set_option linter.unusedVariables false
set_option maxRecDepth 100000
def strL : List UInt8 → Value → Prop := fun k v => v = encStr k
theorem key_strL {P : Program} {kt : TypeId} (hd : P.underlying kt = some .string) : KeyL P kt strL := by
  have h := key_str hd
  refine ⟨fun w b k kv hk => h.check w b ⟨k.toArray⟩ kv hk, fun w k kv es ks hk hl hr => ?_, fun w k u v hu hv => ?_⟩
  · have := h.find w ⟨k.toArray⟩ kv es (ks.map fun k => ⟨k.toArray⟩) hk (by simpa using hl) (fun i e x he hx => by
      rw [List.getElem?_map] at hx
      obtain ⟨y, hy, rfl⟩ := Option.map_eq_some_iff.1 hx
      exact hr i e y he hy)
    rw [List.findIdx?_map] at this
    rw [this]
    congr 2
    refine congrArg (fun p => List.findIdx? p ks) (funext fun x => ?_)
    simp only [Function.comp]
    rw [decide_eq_decide]
    constructor
    · intro h; simpa using h
    · rintro rfl; rfl
  · exact h.stays w ⟨k.toArray⟩ u v hu hv
abbrev Tb := List (Int × Int)
/-- A table: its block, its map's block, what it holds. -/
def tbO (g b : Nat) (l : Tb) : Hp.Own := Hp.Own.both (Hp.Own.blk g #[.map (some b)] 182) (Hp.Own.map intKey (Value.int .i64) b l)
theorem zero_int : ∀ w, (zeroValue 3).run Try.prog w = .ok (.int .i64 0) w := fun w => by kernel_rfl
theorem tbO_cell {g b : Nat} {l : Tb} {w : World} (h : (tbO g b l).holds w) : w.cell? ⟨g, 0, none⟩ = some (.map (some b)) := h.1.cell 0
theorem tbO_map {g b : Nat} {l : Tb} {w : World} (h : (tbO g b l).holds w) : (Hp.Own.map intKey (Value.int .i64) b l).holds w := h.2.1
theorem new_any (w : World) : Calls Try.prog 50 #[] w fun e w' => ∃ g b, e = .returned (.pointer (some ⟨g, 0, none⟩)) ∧ Turns w w' Hp.Own.emp (tbO g b []) := by
  have hmm := @run_makeMap Try.prog
  go_enter Try.func50, Try.ntmps50
  go_wp2_with fail
  go_ret
  refine ⟨_, w.heap.size, rfl, ?_⟩
  have h := (Turns.map_new intKey (Value.int .i64) w).push #[.map (some w.heap.size)] 182
  rw [show (w.alloc (.map #[] 0)).heap.size = w.heap.size + 1 by simp] at h
  exact h
/-- What Arm tells. -/
def armE (l : Tb) (k : Int) (t : Int) : Int := if t < 1 ∨ 1024 < t then 30 else if (mget l k).isSome = false ∧ 32 ≤ l.length then 31 else 0
def armL (l : Tb) (k : Int) (t : Int) : Tb := if armE l k t = 0 then mput l k t else l
theorem tb_turn {g b : Nat} {l l' : Tb} {w w' : World} (h : (tbO g b l).holds w) (t : Turns w w' (Hp.Own.map intKey (Value.int .i64) b l) (Hp.Own.map intKey (Value.int .i64) b l')) : Turns w w' (tbO g b l) (tbO g b l') := Turns.rightT h t
theorem arm_any (g b : Nat) (l : Tb) (k : Int) (t : Int) (w : World) (h : (tbO g b l).holds w) (hl : l.length ≤ 1000000) :
    Calls Try.prog 99 #[.pointer (some ⟨g, 0, none⟩), (Value.int .i64) k, .int .i64 t] w fun e w' => e = .returned (.int .i64 (armE l k t)) ∧ Turns w w' (tbO g b l) (tbO g b (armL l k t)) := by
  have HH := Lib.hid h
  have HM := Lib.hid (tbO_map h)
  have hc := tbO_cell h
  have hlen := fun ty => run_lenM (P := Try.prog) (ty := ty) Try.underlying180 HM.out
  have HK : Hid (KeyL Try.prog 3 intKey) := Lib.hid (key_int Try.underlying3)
  obtain ⟨n, hn⟩ : ∃ n, l.length = n := ⟨_, rfl⟩
  rw [hn] at hlen hl
  have HE : Hid (armE l k t = if t < 1 ∨ 1024 < t then 30 else if (mget l k).isSome = false ∧ 32 ≤ n then 31 else 0) := Lib.hid (by unfold armE; rw [hn])
  obtain ⟨o, ho⟩ : ∃ o, mget l k = o := ⟨_, rfl⟩
  rw [ho] at HE
  have HO := Lib.hid ho
  obtain ⟨E, hE⟩ : ∃ E, armE l k t = E := ⟨_, rfl⟩
  have HA : Hid (armL l k t = if E = 0 then mput l k t else l) := Lib.hid (by unfold armL; rw [hE])
  rw [hE] at HE ⊢
  clear hE ho hn h
  have hq : ((E = 30 ∧ ((decide (t < 1) = true ∧ True) ∨ (decide (t < 1) = false ∧ decide (1024 < t) = true)))) ∨ (decide (t < 1) = false ∧ decide (1024 < t) = false ∧ ((E = 31 ∧ o = none ∧ decide ((n : Int) ≥ 32) = true ∧ decide (32 ≤ n) = true) ∨ (E = 0 ∧ ((∃ v, o = some v) ∨ (o = none ∧ decide ((n : Int) ≥ 32) = false ∧ decide (32 ≤ n) = false))))) := by
    have HE := HE.out
    by_cases h1 : t < 1
    · rw [if_pos (Or.inl h1)] at HE
      exact Or.inl ⟨HE, Or.inl ⟨by simpa using h1, trivial⟩⟩
    · by_cases h2 : 1024 < t
      · rw [if_pos (Or.inr h2)] at HE
        exact Or.inl ⟨HE, Or.inr ⟨by simpa using h1, by simpa using h2⟩⟩
      · rw [if_neg (by omega)] at HE
        refine Or.inr ⟨by simpa using h1, by simpa using h2, ?_⟩
        cases o with
        | some v => rw [if_neg (by simp)] at HE; exact Or.inr ⟨HE, Or.inl ⟨v, rfl⟩⟩
        | none =>
          by_cases h3 : 32 ≤ n
          · rw [if_pos (by simpa using h3)] at HE
            exact Or.inl ⟨HE, rfl, by simp; omega, by simpa using h3⟩
          · rw [if_neg (by simpa using h3)] at HE
            exact Or.inr ⟨HE, Or.inr ⟨rfl, by simp; omega, by simpa using h3⟩⟩
  clear HE
  rcases hq with ⟨rfl, ⟨e1, e2⟩ | ⟨e1, e2⟩⟩ | ⟨e1, e2, ⟨rfl, rfl, e3, e4⟩ | ⟨rfl, ⟨v, rfl⟩ | ⟨rfl, e3, e4⟩⟩⟩
  all_goals
    go_enter Try.func99, Try.ntmps99
    go_wp2_with (first
      | (at_lookup; refine wpList_lookupM rfl _ _ 180 true rfl Try.underlying180 HK.out zero_int rfl HM.out rfl rfl ?_; rw [HO.out])
      | (at_mapUpdate; refine wpList_updateM rfl _ _ _ 180 rfl Try.underlying180 HK.out rfl HM.out rfl rfl t rfl ?_; intro w1 ht1; have HT := Lib.hid (tb_turn HH.out ht1); clear ht1))
    go_ret
    first
      | (refine ⟨rfl, ?_⟩; rw [HA.out]; exact HT.out)
      | (refine ⟨rfl, ?_⟩; rw [HA.out]; exact Turns.refl HH.out)
def cancelP (g b : Nat) (l : Tb) (k : Int) (w : World) (e : Ending) (w' : World) : Prop := e = .returned (.bool (mget l k).isSome) ∧ Turns w w' (tbO g b l) (tbO g b (mdel l k))
theorem cancel_any (g b : Nat) (l : Tb) (k : Int) (w : World) (h : (tbO g b l).holds w) :
    Calls Try.prog 100 #[.pointer (some ⟨g, 0, none⟩), (Value.int .i64) k] w (cancelP g b l k w) := by
  have HH := Lib.hid h
  have HM := Lib.hid (tbO_map h)
  have hc := tbO_cell h
  have HK : Hid (KeyL Try.prog 3 intKey) := Lib.hid (key_int Try.underlying3)
  obtain ⟨o, ho⟩ : ∃ o, mget l k = o := ⟨_, rfl⟩
  have HO := Lib.hid ho
  unfold cancelP
  rw [ho]
  clear ho h
  go_enter Try.func100, Try.ntmps100
  go_wp2_with (first
    | (at_lookup; refine wpList_lookupM rfl _ _ 180 true rfl Try.underlying180 HK.out zero_int rfl HM.out rfl rfl ?_; rw [HO.out])
    | (at_delete; refine wpList_deleteM rfl _ _ 180 3 rfl Try.underlying180 HK.out rfl HM.out rfl rfl ?_; intro w1 ht1; have HT := Lib.hid (tb_turn HH.out ht1); clear ht1))
  go_ret
  exact ⟨rfl, HT.out⟩
def leftP (l : Tb) (k : Int) (w : World) (e : Ending) (w' : World) : Prop := e = .returned (.tuple #[.int .i64 ((mget l k).getD 0), .bool (mget l k).isSome]) ∧ w = w'
theorem left_any (g b : Nat) (l : Tb) (k : Int) (w : World) (h : (tbO g b l).holds w) :
    Calls Try.prog 101 #[.pointer (some ⟨g, 0, none⟩), (Value.int .i64) k] w (leftP l k w) := by
  have HM := Lib.hid (tbO_map h)
  have hc := tbO_cell h
  have HK : Hid (KeyL Try.prog 3 intKey) := Lib.hid (key_int Try.underlying3)
  obtain ⟨o, ho⟩ : ∃ o, mget l k = o := ⟨_, rfl⟩
  have HO := Lib.hid ho
  unfold leftP
  rw [ho]
  clear ho h
  cases o
  all_goals
    go_enter Try.func101, Try.ntmps101
    go_wp2_with (at_lookup; refine wpList_lookupM rfl _ _ 180 true rfl Try.underlying180 HK.out zero_int rfl HM.out rfl rfl ?_; rw [HO.out])
    go_ret2
    exact ⟨rfl, rfl⟩
end Go.Proofs.Ytmpkjfengfgagaa.Ti
