/- Tables whose names are floats, all of them one name: New, Arm, Left, Cancel. -/
import Derived.Test.YtmpkjfengfgagaaTmAI
namespace Go.Proofs.Ytmpkjfengfgagaa.Tn
open Go.ChangeMaps (setBlock)
open Go.RowKit Go.Hp
attribute [local go_sem] min2_lean min_two max2_lean max_two
set_option linter.unusedSimpArgs false
set_option linter.unusedVariables false
set_option maxRecDepth 100000
/-- Floats that are all one key. -/
def RF (F : Nat → Prop) : Unit → Value → Prop := fun _ v => ∃ g, v = .float .f64 g ∧ F g
theorem equalIn_fl {P : Program} {t : TypeId} (d : Nat) (hd : P.underlying t = some (.float .f64)) (a b : Nat) (w : World) : (Op.equalIn (d + 1) t (.float .f64 a) (.float .f64 b)).run P w = .ok (FloatKind.f64.format.order a b == some .eq) w := by
  simp [Op.equalIn, run_underlying hd, Op.floatEq]
theorem run_equal_fl {P : Program} {t : TypeId} (hd : P.underlying t = some (.float .f64)) (a b : Nat) (w : World) : (Op.equal t (.float .f64 a) (.float .f64 b)).run P w = .ok (FloatKind.f64.format.order a b == some .eq) w := by
  unfold Op.equal
  exact equalIn_fl 9999 hd a b w
theorem key_fl {P : Program} {kt : TypeId} (hd : P.underlying kt = some (.float .f64)) {F : Nat → Prop} (hF : ∀ a b, F a → F b → (FloatKind.f64.format.order a b == some .eq) = true) : KeyL P kt (RF F) := by
  refine ⟨fun w b k kv hk => ?_, fun w k kv es ks hk hl hr => ?_, fun w k u v hu hv => ?_⟩
  · obtain ⟨g, rfl, _⟩ := hk
    unfold Instr.checkKey
    simp [run_underlying hd, Result.andThen, Sem.run_pure]
  · obtain ⟨g, rfl, hg⟩ := hk
    unfold Instr.findKey
    rw [Sem.run_bind, run_underlying hd]
    simp only [Result.andThen]
    cases es with
    | nil =>
      obtain rfl := List.length_eq_zero_iff.1 hl.symm
      simp [Instr.findNow, Sem.run_pure]
    | cons e es =>
      cases ks with
      | nil => simp at hl
      | cons x ks =>
        obtain ⟨g', he, hg'⟩ := hr 0 e x rfl rfl
        have hn : Instr.findNow (.float .f64) (.float .f64 g) (e :: es) 0 = none := by simp [Instr.findNow, Instr.sameNow]
        rw [hn]
        have hx : x = k := rfl
        subst hx
        simp only [Instr.findAsking, Sem.run_bind, he, run_equal_fl hd, Result.andThen, hF g g' hg hg', if_true, Sem.run_pure]
        rw [List.findIdx?_cons]
        simp
  · obtain ⟨a, rfl, ha⟩ := hu
    obtain ⟨b, rfl, hb⟩ := hv
    unfold Instr.keyThatStays
    by_cases hs : Instr.sameBits 10000 (.float .f64 a) (.float .f64 b) = true
    · rw [if_pos hs]
      exact ⟨_, w, rfl, ⟨b, rfl, hb⟩, Or.inl rfl⟩
    · rw [if_neg hs, Sem.run_bind, run_choose_drew]
      split
      · simp only [Result.andThen, Sem.run_pure]
        exact ⟨_, w, rfl, (by split; exact ⟨b, rfl, hb⟩; exact ⟨a, rfl, ha⟩), Or.inl rfl⟩
      · simp only [Result.andThen, Sem.run_pure]
        exact ⟨_, w.drew, rfl, (by split; exact ⟨b, rfl, hb⟩; exact ⟨a, rfl, ha⟩), Or.inr rfl⟩
/-- On an empty map: any float. -/
theorem run_lookupN {P : Program} {κ : Type} [DecidableEq κ] {R : κ → Value → Prop} {w : World} {b : Nat} {t e kt : TypeId} (ht : P.underlying t = some (.map kt e)) (hd : P.underlying kt = some (.float .f64)) {z : Value} (hz : ∀ w, (zeroValue e).run P w = .ok z w) (h : (Hp.Own.map R (Value.int .i64) b []).holds w) (a : Nat) :
    (Instr.lookup t (.map (some b)) (.float .f64 a) true).run P w = .ok (.tuple #[z, .bool false]) w := by
  obtain ⟨es, clock, hb, hm⟩ := h
  have he : es = #[] := Array.eq_empty_of_size_eq_zero hm.size
  subst he
  have hc : (Instr.checkKey (#[] : Array MapEntry).isEmpty 10000 kt (.float .f64 a)).run P w = .ok () w := by
    unfold Instr.checkKey
    simp [run_underlying hd, Result.andThen, Sem.run_pure]
  have hf : (Instr.findKey kt (.float .f64 a) (#[] : Array MapEntry).toList).run P w = .ok none w := by
    unfold Instr.findKey
    simp [run_underlying hd, Result.andThen, Sem.run_pure, Instr.findNow]
  simp only [Instr.lookup, Sem.run_bind, run_underlying ht, MapKept.run_getObj_map hb, hc, hf, Result.andThen, Sem.run_pure, hz]
  simp
theorem run_deleteN {P : Program} {κ : Type} [DecidableEq κ] {R : κ → Value → Prop} {w : World} {b : Nat} {t e kt ty : TypeId} (ht : P.underlying t = some (.map kt e)) (hd : P.underlying kt = some (.float .f64)) (h : (Hp.Own.map R (Value.int .i64) b []).holds w) (a : Nat) :
    ∃ w', (Builtin.delete_ #[t, kt] ty #[.map (some b), .float .f64 a]).run P w = .ok (.tuple #[]) w' ∧ Turns w w' (Hp.Own.map R (Value.int .i64) b []) (Hp.Own.map R (Value.int .i64) b []) := by
  obtain ⟨es, clock, hb, hm⟩ := h
  have he : es = #[] := Array.eq_empty_of_size_eq_zero hm.size
  subst he
  have hc : (Instr.checkKey true 10000 kt (.float .f64 a)).run P w = .ok () w := by
    unfold Instr.checkKey
    simp [run_underlying hd, Result.andThen, Sem.run_pure]
  have hf : (Instr.findKey kt (.float .f64 a) []).run P w = .ok none w := by
    unfold Instr.findKey
    simp [run_underlying hd, Result.andThen, Sem.run_pure, Instr.findNow]
  refine ⟨setBlock w b (.map #[] clock), ?_, Turns.map_set (O := Hp.Own.map R (Value.int .i64) b []) hb (Or.inl rfl) hm⟩
  simp [Builtin.delete_, Sem.run_bind, run_underlying ht, MapKept.run_getObj_map hb, hc, hf, Result.andThen, run_setObjM hb]
section
variable {P : Program} {κ : Type} [DecidableEq κ] {R : κ → Value → Prop} {w : World} {b : Nat} {ops : Array Oper} {rest : List Oper} {o : Oper} {a : Act} {Q : Exit → Act → World → Prop}
theorem wpList_lookupN (hg : o.guard = none) (m x : Operand) (t : TypeId) (hop : o.op = Op.lookup t m x true) {e kt : TypeId} (ht : P.underlying t = some (.map kt e)) (hd : P.underlying kt = some (.float .f64)) {z : Value} (hz : ∀ w, (zeroValue e).run P w = .ok z w)
    (hm : a.eval m = .map (some b)) (h : (Hp.Own.map R (Value.int .i64) b []).holds w) {g : Nat} (hx : a.eval x = .float .f64 g)
    (hK : wpList P ops Q rest (a.put o.dst (.tuple #[z, .bool false])) w) : wpList P ops Q (o :: rest) a w := by
  refine wpList_plain hg fun K' hK' => ?_
  unfold Oper.wp
  have hrun := run_lookupN (P := P) ht hd hz h g
  simp [execOp, hop, hm, hx, hrun, Result.andThen]
  exact hK' _ _ hK
theorem wpList_deleteN (hg : o.guard = none) (m x : Operand) (t kt : TypeId) (hop : o.op = Op.call { callee := Callee.builtin Builtin.delete, args := #[m, x], argTypes := #[t, kt] }) {e : TypeId} (ht : P.underlying t = some (.map kt e)) (hd : P.underlying kt = some (.float .f64))
    (hm : a.eval m = .map (some b)) (h : (Hp.Own.map R (Value.int .i64) b []).holds w) {g : Nat} (hx : a.eval x = .float .f64 g)
    (hK : ∀ w', Turns w w' (Hp.Own.map R (Value.int .i64) b []) (Hp.Own.map R (Value.int .i64) b []) → wpList P ops Q rest (a.put o.dst (.tuple #[])) w') : wpList P ops Q (o :: rest) a w := by
  refine wpList_plain hg fun K' hK' => ?_
  obtain ⟨w', hrun, ht'⟩ := run_deleteN (P := P) (ty := o.type) ht hd h g
  unfold Oper.wp
  simp [execOp, hop, resolve, invoke, builtin, hm, hx, hrun, Result.andThen]
  exact hK' _ _ (hK w' ht')
end
abbrev Tu := List (Unit × Int)
/-- A table of floats: its block, its map's block. -/
def tuO (F : Nat → Prop) (g b : Nat) (l : Tu) : Hp.Own := Hp.Own.both (Hp.Own.blk g #[.map (some b)] 165) (Hp.Own.map (RF F) (Value.int .i64) b l)
theorem zero_int : ∀ w, (zeroValue 3).run Try.prog w = .ok (.int .i64 0) w := fun w => by kernel_rfl
theorem tuO_cell {F : Nat → Prop} {g b : Nat} {l : Tu} {w : World} (h : (tuO F g b l).holds w) : w.cell? ⟨g, 0, none⟩ = some (.map (some b)) := h.1.cell 0
theorem tuO_map {F : Nat → Prop} {g b : Nat} {l : Tu} {w : World} (h : (tuO F g b l).holds w) : (Hp.Own.map (RF F) (Value.int .i64) b l).holds w := h.2.1
theorem tu_turn {F : Nat → Prop} {g b : Nat} {l l' : Tu} {w w' : World} (h : (tuO F g b l).holds w) (t : Turns w w' (Hp.Own.map (RF F) (Value.int .i64) b l) (Hp.Own.map (RF F) (Value.int .i64) b l')) : Turns w w' (tuO F g b l) (tuO F g b l') := Turns.rightT h t
theorem new_f (F : Nat → Prop) (w : World) : Calls Try.prog 40 #[] w fun e w' => ∃ g b, e = .returned (.pointer (some ⟨g, 0, none⟩)) ∧ Turns w w' Hp.Own.emp (tuO F g b []) := by
  have hmm := @run_makeMap Try.prog
  go_enter Try.func40, Try.ntmps40
  go_wp2_with fail
  go_ret
  refine ⟨_, w.heap.size, rfl, ?_⟩
  have h := (Turns.map_new (RF F) (Value.int .i64) w).push #[.map (some w.heap.size)] 165
  rw [show (w.alloc (.map #[] 0)).heap.size = w.heap.size + 1 by simp] at h
  exact h
/-- Left of a name that is there; of any float where there is none. -/
theorem left_f {F : Nat → Prop} (hF : ∀ a b, F a → F b → (FloatKind.f64.format.order a b == some .eq) = true) (g b : Nat) (l : Tu) (x : Nat) (hx : F x) (w : World) (h : (tuO F g b l).holds w) :
    Calls Try.prog 43 #[.pointer (some ⟨g, 0, none⟩), .float .f64 x] w fun e w' => e = .returned (.tuple #[.int .i64 ((mget l ()).getD 0), .bool (mget l ()).isSome]) ∧ w' = w := by
  have HM := Lib.hid (tuO_map h)
  have hc := tuO_cell h
  have HK : Hid (KeyL Try.prog 85 (RF F)) := Lib.hid (key_fl Try.underlying85 hF)
  have HX : Hid (RF F () (.float .f64 x)) := Lib.hid ⟨x, rfl, hx⟩
  have hz : ((mget l ()).map (Value.int .i64)).getD (.int .i64 0) = .int .i64 ((mget l ()).getD 0) := by cases mget l () <;> rfl
  have HZ := Lib.hid hz
  clear h hz hx
  go_enter Try.func43, Try.ntmps43
  go_wp2_with (first
    | (at_lookup; refine wpList_lookupM rfl _ _ 163 true rfl Try.underlying163 HK.out zero_int rfl HM.out rfl HX.out ?_; rw [HZ.out]))
  exact bodyPost_ret (v := .tuple #[.int .i64 ((mget l ()).getD 0), .bool (mget l ()).isSome]) (by simp [results, Try.results43, go_sem]) rfl ⟨rfl, rfl⟩
theorem left_n {F : Nat → Prop} (g b : Nat) (x : Nat) (w : World) (h : (tuO F g b []).holds w) :
    Calls Try.prog 43 #[.pointer (some ⟨g, 0, none⟩), .float .f64 x] w fun e w' => e = .returned (.tuple #[.int .i64 0, .bool false]) ∧ w' = w := by
  have HM := Lib.hid (tuO_map h)
  have hc := tuO_cell h
  clear h
  go_enter Try.func43, Try.ntmps43
  go_wp2_with (first
    | (at_lookup; refine wpList_lookupN rfl _ _ 163 rfl Try.underlying163 Try.underlying85 zero_int rfl HM.out rfl ?_))
  exact bodyPost_ret (v := .tuple #[.int .i64 0, .bool false]) (by simp [results, Try.results43, go_sem]) rfl ⟨rfl, rfl⟩
theorem cancel_f {F : Nat → Prop} (hF : ∀ a b, F a → F b → (FloatKind.f64.format.order a b == some .eq) = true) (g b : Nat) (l : Tu) (x : Nat) (hx : F x) (w : World) (h : (tuO F g b l).holds w) :
    Calls Try.prog 44 #[.pointer (some ⟨g, 0, none⟩), .float .f64 x] w fun e w' => e = .returned (.bool (mget l ()).isSome) ∧ Turns w w' (tuO F g b l) (tuO F g b (mdel l ())) := by
  have HH := Lib.hid h
  have HM := Lib.hid (tuO_map h)
  have hc := tuO_cell h
  have HK : Hid (KeyL Try.prog 85 (RF F)) := Lib.hid (key_fl Try.underlying85 hF)
  have HX : Hid (RF F () (.float .f64 x)) := Lib.hid ⟨x, rfl, hx⟩
  clear h hx
  go_enter Try.func44, Try.ntmps44
  go_wp2_with (first
    | (at_lookup; refine wpList_lookupM rfl _ _ 163 true rfl Try.underlying163 HK.out zero_int rfl HM.out rfl HX.out ?_)
    | (at_delete; refine wpList_deleteM rfl _ _ 163 85 rfl Try.underlying163 HK.out rfl HM.out rfl HX.out ?_; intro w1 ht1; have HT := Lib.hid (tu_turn HH.out ht1); clear ht1))
  go_ret
  exact ⟨rfl, HT.out⟩
theorem cancel_n {F : Nat → Prop} (g b : Nat) (x : Nat) (w : World) (h : (tuO F g b []).holds w) :
    Calls Try.prog 44 #[.pointer (some ⟨g, 0, none⟩), .float .f64 x] w fun e w' => e = .returned (.bool false) ∧ Turns w w' (tuO F g b []) (tuO F g b []) := by
  have HH := Lib.hid h
  have HM := Lib.hid (tuO_map h)
  have hc := tuO_cell h
  clear h
  go_enter Try.func44, Try.ntmps44
  go_wp2_with (first
    | (at_lookup; refine wpList_lookupN rfl _ _ 163 rfl Try.underlying163 Try.underlying85 zero_int rfl HM.out rfl ?_)
    | (at_delete; refine wpList_deleteN rfl _ _ 163 85 rfl Try.underlying163 Try.underlying85 rfl HM.out rfl ?_; intro w1 ht1; have HT := Lib.hid (tu_turn HH.out ht1); clear ht1))
  go_ret
  exact ⟨rfl, HT.out⟩
/-- Arm where nothing is armed. -/
theorem arm_n {F : Nat → Prop} (g b : Nat) (x : Nat) (t : Int) (hx : (FloatKind.f64.format.order x x == some .eq) = false) (w : World) (h : (tuO F g b []).holds w) :
    Calls Try.prog 42 #[.pointer (some ⟨g, 0, none⟩), .float .f64 x, .int .i64 t] w fun e w' => e = .returned (.int .i64 1) ∧ w' = w := by
  have HM := Lib.hid (tuO_map h)
  have hc := tuO_cell h
  have hx2 : (FloatKind.f64.format.order x x != some .eq) = true := by rw [bne, hx]; rfl
  clear h
  go_enter Try.func42, Try.ntmps42
  go_wp2_with (first
    | (at_lookup; refine wpList_lookupN rfl _ _ 163 rfl Try.underlying163 Try.underlying85 zero_int rfl HM.out rfl ?_))
  go_ret
  exact ⟨rfl, rfl⟩
def armF (t : Int) : Int := if t < 1 ∨ 1024 < t then 30 else 0
def lstF (t : Int) : Tu := if t < 1 ∨ 1024 < t then [] else [((), t)]
set_option maxHeartbeats 1000000 in
theorem arm_f {F : Nat → Prop} (hF : ∀ a b, F a → F b → (FloatKind.f64.format.order a b == some .eq) = true) (g b : Nat) (x : Nat) (hx : F x) (t : Int) (w : World) (h : (tuO F g b []).holds w) :
    Calls Try.prog 42 #[.pointer (some ⟨g, 0, none⟩), .float .f64 x, .int .i64 t] w fun e w' => e = .returned (.int .i64 (armF t)) ∧ Turns w w' (tuO F g b []) (tuO F g b (lstF t)) := by
  have HH := Lib.hid h
  have HM := Lib.hid (tuO_map h)
  have hc := tuO_cell h
  have HK : Hid (KeyL Try.prog 85 (RF F)) := Lib.hid (key_fl Try.underlying85 hF)
  have HX : Hid (RF F () (.float .f64 x)) := Lib.hid ⟨x, rfl, hx⟩
  have hlen := fun ty => run_lenM (P := Try.prog) (ty := ty) Try.underlying163 HM.out
  have hxx : (FloatKind.f64.format.order x x == some .eq) = true := hF x x hx hx
  have hx2 : (FloatKind.f64.format.order x x != some .eq) = false := by rw [bne, hxx]; rfl
  clear h hx
  by_cases h1 : t < 1
  · have hd : decide (t < 1) = true := by simpa using h1
    have HA : Hid (armF t = 30) := Lib.hid (by unfold armF; rw [if_pos (Or.inl h1)])
    have HL : Hid (lstF t = []) := Lib.hid (by unfold lstF; rw [if_pos (Or.inl h1)])
    go_enter Try.func42, Try.ntmps42
    go_wp2_with (first
      | (at_lookup; refine wpList_lookupM rfl _ _ 163 true rfl Try.underlying163 HK.out zero_int rfl HM.out rfl HX.out ?_))
    go_ret
    rw [HA.out, HL.out]
    exact ⟨rfl, Turns.refl HH.out⟩
  · have hd : decide (t < 1) = false := by simpa using h1
    by_cases h2 : 1024 < t
    · have hd2 : decide (1024 < t) = true := by simpa using h2
      have HA : Hid (armF t = 30) := Lib.hid (by unfold armF; rw [if_pos (Or.inr h2)])
      have HL : Hid (lstF t = []) := Lib.hid (by unfold lstF; rw [if_pos (Or.inr h2)])
      go_enter Try.func42, Try.ntmps42
      go_wp2_with (first
        | (at_lookup; refine wpList_lookupM rfl _ _ 163 true rfl Try.underlying163 HK.out zero_int rfl HM.out rfl HX.out ?_))
      go_ret
      rw [HA.out, HL.out]
      exact ⟨rfl, Turns.refl HH.out⟩
    · have hd2 : decide (1024 < t) = false := by simpa using h2
      have HA : Hid (armF t = 0) := Lib.hid (by unfold armF; rw [if_neg (by omega)])
      have HL : Hid (lstF t = [((), t)]) := Lib.hid (by unfold lstF; rw [if_neg (by omega)])
      go_enter Try.func42, Try.ntmps42
      go_wp2_with (first
        | (at_lookup; refine wpList_lookupM rfl _ _ 163 true rfl Try.underlying163 HK.out zero_int rfl HM.out rfl HX.out ?_)
        | (at_mapUpdate; refine wpList_updateM rfl _ _ _ 163 rfl Try.underlying163 HK.out rfl HM.out rfl HX.out t rfl ?_; intro w1 ht1; have HT := Lib.hid (tu_turn HH.out ht1); clear ht1))
      go_ret
      rw [HA.out, HL.out]
      exact ⟨rfl, HT.out⟩
end Go.Proofs.Ytmpkjfengfgagaa.Tn
