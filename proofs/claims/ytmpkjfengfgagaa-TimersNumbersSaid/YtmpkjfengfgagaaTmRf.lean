/- The document's own table of timers: place, before, Arm, Cancel, Tick, Left, Armed, Clone. -/
import Derived.Test.YtmpkjfengfgagaaProg
import Derived.Test.YtmpkjfengfgagaaRw
import Derived.Test.YtmpkjfengfgagaaNt
import Derived.Sort.EncStr
import Derived.Deep.RegionHeld3
import Derived.Deep.RegionLaw
import Derived.Deep.QuietTactic
import Derived.ProofKit
import Derived.Lib.Hide
import Derived.OwnWalk
import Derived.Laws.StructEq
namespace Go.Proofs.Ytmpkjfengfgagaa.Tf
open Go.RowKit Go.Hp
attribute [local go_sem] min2_lean min_two max2_lean max_two
set_option linter.unusedSimpArgs false
set_option linter.unusedVariables false
set_option maxRecDepth 100000
/-- A name of the document: a text and a number. -/
abbrev Nm := List UInt8 × Int
abbrev Rt := List (Nm × Int)
theorem Try.info178 : (Try.prog.info? 178).map (fun i => (i.zero, i.size, i.bytes)) = some (some (.agg #[.string ByteArray.empty, .int .i64 0, .int .i64 0]), 3, 32) := by kernel_rfl
theorem Try.info171 : (Try.prog.info? 171).map (fun i => (i.zero, i.size, i.bytes)) = some (some (.agg #[.string ByteArray.empty, .int .i64 0]), 2, 24) := by kernel_rfl
def kc (k : Nm) : List Value := [encStr k.1, .int .i64 k.2]
def tc (x : Nm × Int) : List Value := [encStr x.1.1, .int .i64 x.1.2, .int .i64 x.2]
def tcs (l : Rt) : List (List Value) := l.map tc
def kcs (l : List Nm) : List (List Value) := l.map kc
theorem tcs_wd (l : Rt) : Wd 3 (tcs l) := fun x hx => by
  obtain ⟨y, _, rfl⟩ := List.mem_map.1 hx
  rfl
theorem kcs_wd (l : List Nm) : Wd 2 (kcs l) := fun x hx => by
  obtain ⟨y, _, rfl⟩ := List.mem_map.1 hx
  rfl
def nms (l : Rt) : List Nm := l.map (·.1)
theorem nms_len (l : Rt) : (nms l).length = l.length := List.length_map ..
theorem enc_one (s : List UInt8) : (encStr s).oneCell' = true := rfl
theorem tcs_one (l : Rt) : ∀ u ∈ (tcs l).flatten, u.oneCell' = true := fun u hu => by
  obtain ⟨c, hc, hu⟩ := List.mem_flatten.1 hu
  obtain ⟨x, _, rfl⟩ := List.mem_map.1 hc
  simp only [tc, List.mem_cons, List.mem_nil_iff, or_false] at hu
  rcases hu with rfl | rfl | rfl
  · rfl
  · rfl
  · rfl
theorem tcs_snoc (l : Rt) (x : Nm × Int) : (tcs l).flatten ++ tc x = (tcs (l ++ [x])).flatten := by simp [tcs]
theorem kcs_snoc (l : List Nm) (x : Nm) : (kcs l).flatten ++ kc x = (kcs (l ++ [x])).flatten := by simp [kcs]
/-- The table: its block, its slice, what it holds. -/
def rO (g : Nat) (v : Value) (l : Rt) : Hp.Own := Hp.Own.both (Hp.Own.blk g #[v] 98) (Hp.Own.row 178 3 v l.length (tcs l).flatten)
theorem rO_cell {g : Nat} {v : Value} {l : Rt} {w : World} (h : (rO g v l).holds w) : w.cell? ⟨g, 0, none⟩ = some v ∧ w.frozen? ⟨g, 0, none⟩ = false ∧ g < w.heap.size := ⟨h.1.cell 0, Blk.frozen h.1 0, Blk.lt h.1⟩
theorem rO_row {g : Nat} {v : Value} {l : Rt} {w : World} (h : (rO g v l).holds w) : w.ownsRow 0 178 3 v l.length (tcs l).flatten := h.2.1
/-- The cells of a timer. -/
theorem rO_at {g : Nat} {A : Option Addr} {n c : Nat} {l : Rt} {w : World} (h : (rO g (.slice A n c) l).holds w) {i : Nat} {x : Nm × Int} (hi : l[i]? = some x) : ∃ b, A = some ⟨b, 0, none⟩ ∧ b < w.heap.size ∧ b ≠ g ∧
    w.cell? ⟨b, i * 3, none⟩ = some (encStr x.1.1) ∧ w.cell? ⟨b, i * 3 + 1, none⟩ = some (.int .i64 x.1.2) ∧ w.cell? ⟨b, i * 3 + 2, none⟩ = some (.int .i64 x.2) ∧ w.frozen? ⟨b, i * 3 + 2, none⟩ = false := by
  have hr := rO_row h
  have hil : i < l.length := (List.getElem?_eq_some_iff.1 hi).1
  obtain ⟨b, c', e, hb, _⟩ := row_form hr (by omega)
  obtain ⟨rfl, rfl, rfl⟩ := Value.slice.inj e
  have hx : (tcs l)[i]? = some (tc x) := by rw [tcs, List.getElem?_map, hi]; rfl
  have q := fun j u (hu : (tc x)[j]? = some u) => row_cell hr _ (fl_get (tcs_wd l) hx hu)
  refine ⟨b, rfl, hb, fun e => h.2.2 b e rfl, (q 0 _ rfl).1, (q 1 _ rfl).1, (q 2 _ rfl).1, (q 2 _ rfl).2⟩
/-- One name ahead of another. -/
def bef (a b : Nm) : Bool := Op.bytesLess a.1 b.1 || (decide (a.1 = b.1) && decide (a.2 < b.2))
theorem before_any (a b : Nm) (w : World) : Calls Try.prog 119 #[.agg #[encStr a.1, .int .i64 a.2], .agg #[encStr b.1, .int .i64 b.2]] w fun e w' => e = .returned (.bool (bef a b)) ∧ Chg (fun _ => False) w w' := by
  obtain ⟨s, m⟩ := a
  obtain ⟨t, n⟩ := b
  go_enter Try.func119, Try.ntmps119
  go_wp2_with fail
  all_goals
    go_ret
    refine ⟨?_, ((Chg.refl _ _).alloc _).alloc _⟩
    first
      | (simp [bef, *]; done)
      | (rename_i h1 h2; subst h2; simp [bef]; intro h3; exact absurd h3 h1)
theorem encStr_toList (s : List UInt8) : (ByteArray.mk s.toArray).toList = s := by rw [ByteArray.toList_eq]
theorem run_eq_key (w : World) (s t : List UInt8) (m n : Int) : (binOp .eql 171 (.agg #[encStr s, .int .i64 m]) (.agg #[encStr t, .int .i64 n])).run Try.prog w = .ok (.bool (decide ((s, m) = (t, n)))) w := by
  have h1 : Try.prog.underlying 171 = some (.struct (Try.prog.fieldsOf 171)) := by kernel_rfl
  have h2 : Try.prog.stoodInHeld 171 = false := by kernel_rfl
  have h3 : (Try.prog.fieldsOf 171).toList.map (fun f => (f.name == "_", f.type, f.offset)) = [(false, 9, 0), (false, 3, 1)] := by kernel_rfl
  have u9 := Try.underlying9
  have u3 := Try.underlying3
  rw [run_eql_struct, run_equalIn_agg _ _ _ _ _ h1 h2]
  generalize (Try.prog.fieldsOf 171).toList = fs at h3
  obtain ⟨f0, fs, rfl, e0, h3⟩ := List.map_eq_cons_iff.1 h3
  obtain ⟨f1, fs, rfl, e1, h3⟩ := List.map_eq_cons_iff.1 h3
  obtain rfl := List.map_eq_nil_iff.1 h3
  simp only [Prod.mk.injEq, beq_eq_false_iff_ne] at e0 e1
  obtain ⟨a0, a1, a2⟩ := e0
  obtain ⟨b0, b1, b2⟩ := e1
  have p9 : ∀ (cs : Array Value) (v : Value) (off : Nat) (w : World), cs[off]? = some v → (part 9 cs off).run Try.prog w = .ok v w := fun cs v off w hv => by
    have hg : (isAgg 9).run Try.prog w = .ok false w := by kernel_rfl
    simp only [part, Sem.run_bind, hg, Result.andThen_ok, Bool.false_eq_true, if_false, hv, Sem.run_pure]
  have p3 : ∀ (cs : Array Value) (v : Value) (off : Nat) (w : World), cs[off]? = some v → (part 3 cs off).run Try.prog w = .ok v w := fun cs v off w hv => by
    have hg : (isAgg 3).run Try.prog w = .ok false w := by kernel_rfl
    simp only [part, Sem.run_bind, hg, Result.andThen_ok, Bool.false_eq_true, if_false, hv, Sem.run_pure]
  have q9 : (Op.equalIn 9999 9 (encStr s) (encStr t)).run Try.prog w = .ok (s == t) w := by
    have := run_equalIn_string (P := Try.prog) w 9998 9 ⟨s.toArray⟩ ⟨t.toArray⟩ u9
    rw [encStr_toList, encStr_toList] at this
    exact this
  have q3 : (Op.equalIn 9999 3 (.int .i64 m) (.int .i64 n)).run Try.prog w = .ok (m == n) w := run_equalIn_int (P := Try.prog) w 9998 3 .i64 .i64 m n u3
  simp only [Op.eqFields, if_pos a0, if_pos b0, a1, a2, b1, b2, Sem.run_bind, p9 #[encStr s, .int .i64 m] (encStr s) 0 w rfl, p9 #[encStr t, .int .i64 n] (encStr t) 0 w rfl, p3 #[encStr s, .int .i64 m] (.int .i64 m) 1 w rfl, p3 #[encStr t, .int .i64 n] (.int .i64 n) 1 w rfl, q9, q3, Result.andThen_ok]
  by_cases e : s = t
  · subst e
    by_cases e2 : m = n
    · subst e2
      simp [q3, Sem.run_pure, Sem.run_ite, Sem.run_bind, p3 #[encStr s, .int .i64 m] (.int .i64 m) 1 w rfl]
    · simp [q3, Sem.run_pure, Sem.run_ite, Sem.run_bind, e2, p3 #[encStr s, .int .i64 m] (.int .i64 m) 1 w rfl, p3 #[encStr s, .int .i64 n] (.int .i64 n) 1 w rfl]
  · simp [Sem.run_pure, Sem.run_ite, e]
def plc (l : Rt) (k : Nm) : Option Nat := l.findIdx? (fun x => decide (x.1 = k))
def plI (l : Rt) (k : Nm) : Int := match plc l k with | some i => (i : Int) | none => -1
theorem plc_some {l : Rt} {k : Nm} {i : Nat} {x : Nm × Int} (hi : l[i]? = some x) (hx : x.1 = k) (hn : ∀ (j : Nat) (y : Nm × Int), j < i → l[j]? = some y → y.1 ≠ k) : plc l k = some i := by
  unfold plc
  rw [List.findIdx?_eq_some_iff_getElem]
  obtain ⟨h1, h2⟩ := List.getElem?_eq_some_iff.1 hi
  refine ⟨h1, by rw [h2]; simpa using hx, fun j hj => ?_⟩
  have := hn j _ hj (List.getElem?_eq_getElem (by omega))
  simpa using this
theorem plc_none {l : Rt} {k : Nm} (hn : ∀ (j : Nat) (y : Nm × Int), l[j]? = some y → y.1 ≠ k) : plc l k = none := by
  unfold plc
  rw [List.findIdx?_eq_none_iff]
  intro x hx
  obtain ⟨i, hi, rfl⟩ := List.mem_iff_getElem.1 hx
  simpa using hn i _ (List.getElem?_eq_getElem hi)
set_option maxHeartbeats 1000000 in
theorem place_any (g : Nat) (v : Value) (l : Rt) (k : Nm) (w : World) (h : (rO g v l).holds w) (hl : l.length ≤ 1000000) :
    Calls Try.prog 118 #[.pointer (some ⟨g, 0, none⟩), .agg #[encStr k.1, .int .i64 k.2]] w fun e w' => e = .returned (.int .i64 (plI l k)) ∧ Chg (fun _ => False) w w' := by
  obtain ⟨s, m⟩ := k
  obtain ⟨A, c, rfl⟩ := row_slice (rO_row h)
  obtain ⟨n, hn⟩ : ∃ n, l.length = n := ⟨_, rfl⟩
  rw [hn] at h hl
  have HN := Lib.hid hn
  clear hn
  have H0 := Lib.hid (Turns.refl h)
  obtain ⟨h0, h0f, hg⟩ := rO_cell h
  clear h
  have hm : Try.prog.eqGuardType Try.prog.depth 171 = false := by kernel_rfl
  have hgd := fun (x y : Operand) (xs ys : Array Value) (w : World) => run_eqGuard_agg (P := Try.prog) w .eql 171 x y xs ys hm
  go_enter Try.func118, Try.ntmps118
  go_wp2_with fail
  go_loopw [11] (fun x11 wr => ∃ i : Nat, x11 = .int .i64 i ∧ i ≤ n ∧ (∀ (j : Nat) (y : Nm × Int), j < i → l[j]? = some y → y.1 ≠ (s, m)) ∧ Turns w wr (rO g (.slice A n c) l) (Hp.Own.both (Hp.Own.blk w.heap.size #[encStr s, .int .i64 m] 171) (rO g (.slice A n c) l)) ∧ Chg (fun _ => False) w wr) (fun x11 _ => n - (intOf x11).toNat)
  case atStart => exact ⟨0, rfl, Nat.zero_le _, fun j y hj => absurd hj (Nat.not_lt_zero _), H0.out.push _ _, (Chg.refl _ _).alloc _⟩
  case round =>
    obtain ⟨i, rfl, hi, hno, ht, hch⟩ := hrel
    clear h0 h0f hg
    obtain ⟨h0, h0f, hg⟩ := rO_cell ht.n1
    have k0 : wr.cell? ⟨w.heap.size, 0, none⟩ = some (encStr s) := ht.b0.cell 0
    have k1 : wr.cell? ⟨w.heap.size, 1, none⟩ = some (.int .i64 m) := ht.b0.cell 1
    have HT := Lib.hid ht
    have HC := Lib.hid hch
    have HO := Lib.hid hno
    clear ht hch hno
    by_cases hlt : i < n
    · have hd : decide ((i : Int) < (n : Int)) = true := by simp; omega
      have hd' : decide (i < n) = true := by simp; omega
      obtain ⟨x, hx⟩ : ∃ x, l[i]? = some x := ⟨_, List.getElem?_eq_getElem (by have := HN.out; omega)⟩
      obtain ⟨b, rfl, hb, hbg, c0, c1, c2, c2f⟩ := rO_at HT.out.n1 hx
      have HX := Lib.hid hx
      clear hx
      obtain ⟨⟨s', m'⟩, q⟩ := x
      by_cases he : (s', m') = (s, m)
      · have heq := fun w => (run_eq_key w s' s m' m).trans (by rw [decide_eq_true he])
        go_wp2_with fail
        go_quiet (fail)
        go_wp2_with fail
        go_ret
        refine ⟨?_, HC.out.drewN _⟩
        have := plc_some (k := (s, m)) HX.out he HO.out
        simp [plI, this]
      · have heq := fun w => (run_eq_key w s' s m' m).trans (by rw [decide_eq_false he])
        go_wp2_with fail
        go_quiet (fail)
        go_wp2_with fail
        refine ⟨⟨i + 1, by simp, by omega, fun j y hj hy => ?_, HT.out.kept ((Chg.refl _ _).drewN _), HC.out.drewN _⟩, by simp [intOf]; omega⟩
        by_cases e : j < i
        · exact HO.out j y e hy
        · obtain rfl : j = i := by omega
          obtain rfl := Option.some.inj (HX.out.symm.trans hy)
          exact he
    · have hd : decide ((i : Int) < (n : Int)) = false := by simp; omega
      have hd' : decide (i < n) = false := by simp; omega
      go_wp2_with fail
      go_ret
      refine ⟨?_, HC.out⟩
      have := plc_none (l := l) (k := (s, m)) (fun j y hj => HO.out j y (by have := HN.out; have := (List.getElem?_eq_some_iff.1 hj).1; omega) hj)
      simp [plI, this]
end Go.Proofs.Ytmpkjfengfgagaa.Tf
