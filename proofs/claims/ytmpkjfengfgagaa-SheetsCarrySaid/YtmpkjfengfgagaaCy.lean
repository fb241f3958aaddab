/- A copy of a whole row into another of the same length, elements of several cells. Plain. -/
import Derived.Test.YtmpkjfengfgagaaRw
import Derived.Laws.CopyRow
import Derived.Test.YtmpkjfengfgagaaAppS
namespace Go.Hp
open Go.RowKit Go.Hp
section
variable {P : Program}
theorem run_copy_rowN (w : World) (dT sT ty elem : TypeId) (s g dLen dCap : Nat) (a : Addr) (sLen sCap : Nat) (cur : Array Value) (t : TypeId) (cs : List Value)
    (hu : P.underlying dT = some (.slice elem)) (hs : (P.info? elem).map (·.size) = some s)
    (hg : w.heap[g]? = some (.cells cur t (0, 0))) (hn : cs.length = (Nat.min sLen dLen) * s)
    (hsrc : ∀ j v, cs[j]? = some v → w.cell? (a.add j) = some v) (hfit : cs.length ≤ cur.size) (h1 : ∀ v ∈ cs, v.oneCell' = true) :
    (Builtin.copy_ #[dT, sT] ty #[.slice (some ⟨g, 0, none⟩) dLen dCap, .slice (some a) sLen sCap]).run P w =
      .ok (goInt (Nat.min sLen dLen)) (w.setRow g (cur.toList.take 0 ++ cs ++ cur.toList.drop (0 + cs.length)).toArray) := by
  have hl := run_loadCells_list (P := P) w a cs hsrc
  have hst := run_storeCells_at P g 0 t cs 0 cur w hg (by simpa using hfit) h1
  rw [hn] at hl
  cases hq : P.info? elem with
  | none => simp [hq] at hs
  | some i =>
    have hi : i.size = s := by simpa [hq] using hs
    simp [Builtin.copy_, run_underlying hu, Builtin.lenOf, Builtin.firstCells, sizeOf, typeInfo, hq, hi, hl, hst]
/-- A copy over a whole block, as one step of a region that draws. -/
theorem step_copyB {ops : Array Oper} {o : Oper} {a : Act} {w : World} {K : Act → World → Prop} {Q : Exit → Act → World → Prop} {E : Prop} (hgd : o.guard = none) (d s : Operand) (dT sT : TypeId)
    (ho : o.op = .call { callee := .builtin .copy, args := #[d, s], argTypes := #[dT, sT] }) (e : TypeId) (size : Nat) (hu : P.underlying dT = some (.slice e)) (hsz : (P.info? e).map (·.size) = some size)
    (g n : Nat) (zs : Array Value) (T : TypeId) (hd : a.eval d = .slice (some ⟨g, 0, none⟩) n n) (hown : Blk w g zs T) (b : Nat) (cs : Array Value) (T' : TypeId) (hs : a.eval s = .slice (some ⟨b, 0, none⟩) n n) (hsrc : Blk w b cs T')
    (hz : zs.size = n * size) (hc : cs.size = n * size) (h1 : ∀ u ∈ cs.toList, u.oneCell' = true)
    (h : ∀ w', SetBlk w w' g cs T → K (a.put o.dst (goInt n)) w') :
    if Region.wanted o (yielded ops a.tmps) = true then Oper.wp P o a w K Q else E := by
  have hw : Region.wanted o (yielded ops a.tmps) = true := by simp [Region.wanted, hgd]
  rw [if_pos hw]
  have hmin : Nat.min n n = n := Nat.min_self n
  have hrun := run_copy_rowN (P := P) w dT sT o.type e size g n n ⟨b, 0, none⟩ n n zs T cs.toList hu hsz hown (by rw [hmin, Array.length_toList]; exact hc) (fun j v hj => by
    have ha : (⟨b, 0, none⟩ : Addr).add j = ⟨b, j, none⟩ := by unfold Addr.add; split <;> simp_all
    rw [ha, hsrc.cell]
    simpa using hj) (by rw [Array.length_toList]; omega) h1
  rw [hmin] at hrun
  have hset : (zs.toList.take 0 ++ cs.toList ++ zs.toList.drop (0 + cs.toList.length)).toArray = cs := by
    rw [Array.length_toList, List.take_zero, List.nil_append, List.drop_of_length_le (by rw [Array.length_toList]; omega), List.append_nil]
  rw [hset] at hrun
  unfold Oper.wp
  simp [execOp, ho, resolve, invoke, builtin, hd, hs, hrun, Result.andThen]
  refine h _ ⟨?_, by simp [World.setRow], ⟨rfl, rfl, rfl, by simp [World.setRow], fun k _ hk => setRow_other w g k cs hk⟩⟩
  unfold Blk
  exact setRow_heap w g zs cs T (0, 0) hown
theorem alloc_drew (w : World) (o : Obj) : (w.alloc o).drew = w.drew.alloc o := rfl
/-- A row that is made: for every world. -/
theorem run_makeN (t e : TypeId) (i : TypeInfo) (z : Value) (size : Nat) (ht : P.underlying t = some (.slice e)) (hi : P.info? e = some i) (hz : i.zero = some z) (hsize : i.size = size)
    (kl kc : IntKind) (n : Nat) (hbytes : i.bytes * n ≤ 281474976710656) (h63 : n ≤ maxLen) (w : World) :
    (Instr.makeSlice t (.int kl (n : Int)) (.int kc (n : Int))).run P w = .ok (.slice (some ⟨w.heap.size, 0, none⟩) n n) (w.alloc (.cells (madeCells z.cells (n * size)) e)) := by
  subst hsize
  have h63' : (n : Int) ≤ 9223372036854775807 := by
    have h := h63
    simp [maxLen] at h
    omega
  have hb' : (i.bytes : Int) * (n : Int) ≤ 281474976710656 := by
    have h : ((i.bytes * n : Nat) : Int) ≤ 281474976710656 := by omega
    rwa [Int.natCast_mul] at h
  have hr := run_make (P := P) w t e i z ht hi hz kl kc n n (by omega) (Int.le_refl _) hb' h63'
  simp only [Int.toNat_natCast] at hr
  exact hr
/-- One element of several cells behind a row, as a step of a region that draws. -/
theorem step_app1M {w : World} {ops : Array Oper} {o : Oper} {a : Act} {K : Act → World → Prop} {Q : Exit → Act → World → Prop} {E : Prop} (hgd : o.guard = none) (s x : Operand) (t : TypeId)
    (ho : o.op = .call { callee := .builtin .append, args := #[s, x], argTypes := #[t, t] })
    (e : TypeId) (i : TypeInfo) (z : Value) (size bytes : Nat) (ht : P.underlying t = some (.slice e)) (hi : P.info? e = some i) (hz : i.zero = some z)
    (hsize : i.size = size) (hby : i.bytes = bytes) (hzs : z.cells.size = size) (hsz : 0 < size)
    (v : Value) (n : Nat) (xs : List Value) (hs : a.eval s = v) (cs : Array Value) (T : TypeId) (b0 : Nat) (hx : a.eval x = .slice (some ⟨b0, 0, none⟩) 1 1) (hb0 : b0 = w.heap.size) (hown : w.ownsRow 0 e size v n xs)
    (hcs : cs.size = size) (h1 : ∀ u ∈ cs.toList, u.oneCell' = true) (h63 : n + 1 ≤ maxLen) (hbytes : (n + 1) * bytes ≤ 140737488355328)
    (h : ∀ g c w', n + 1 ≤ c → Turns w w' (Own.row e size v n xs) (Own.row e size (.slice (some ⟨g, 0, none⟩) (n + 1) c) (n + 1) (xs ++ cs.toList)) → K (a.put o.dst (.slice (some ⟨g, 0, none⟩) (n + 1) c)) w') :
    if Region.wanted o (yielded ops a.tmps) = true then Oper.wp P o a (w.alloc (.cells cs T)) K Q else E := by
  subst hb0
  have hw : Region.wanted o (yielded ops a.tmps) = true := by simp [Region.wanted, hgd]
  rw [if_pos hw]
  have hT : Turns w (w.alloc (.cells cs T)) (Own.row e size v n xs) (Own.row e size v n xs) := Turns.alloc (Turns.refl (O := Own.row e size v n xs) hown) _
  obtain ⟨v', w', hr, h2, h3, _, h5⟩ := run_append_own_at (P := P) (w.alloc (.cells cs T)) 0 t o.type e i z size bytes ht hi hz hsize hby hzs hsz v n xs hT.now ⟨w.heap.size, 0, none⟩ 1 1 cs.toList (by simp [hcs]) (by
    intro j u hj
    have ha : (⟨w.heap.size, 0, none⟩ : Addr).add j = ⟨w.heap.size, j, none⟩ := by unfold Addr.add; split <;> simp_all
    rw [ha, (Blk.new w cs T).cell]
    simpa using hj) h1 h63 hbytes (Nat.zero_le _)
  obtain ⟨g, c, rfl, _, hc⟩ := row_form h2 (by omega)
  have hk := h g c w' hc (hT.trans (Turns.row h2 h3 h5))
  unfold Oper.wp execOp
  simp only [ho, resolve, invoke, builtin, Sem.run_bind, Sem.run_pure, Result.andThen_ok, List.map_toArray, List.map_cons, List.map_nil, hs, hx, hr]
  exact hk
end
end Go.Hp
