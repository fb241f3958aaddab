/- Append, make and copy, as steps of things in memory. Plain. -/
import Derived.Test.YtmpkjfengfgagaaSp
import Derived.Test.YtmpkjfengfgagaaAppS
import Derived.Laws.CopyOwn
namespace Go.Hp
open Go.RowKit

theorem Turns.kept {w w' W : World} {O O' : Own} (h : Turns w w' O O') (hc : Chg (fun _ => False) w' W) : Turns w W O O' :=
  h.trans ⟨hc.mono fun _ _ hf => hf.elim, Own.chg h.now hc (fun _ _ hf => hf), fun _ hb => Or.inl hb⟩
theorem Turns.of_kept {w W : World} {O : Own} (h : O.holds w) (hc : Chg (fun _ => False) w W) : Turns w W O O := (Turns.refl h).kept hc
theorem Turns.left {w w' : World} {A O O' : Own} (h : (Own.both O A).holds w) (t : Turns w w' O O') : Turns w w' (Own.both O A) (Own.both O' A) :=
  ⟨t.chg.mono fun _ _ hf => Or.inl hf, ⟨t.now, Own.chg h.2.1 t.chg (fun b h1 h2 => h.2.2 b h2 h1), fun b h1 h2 => (t.near b h1).elim (fun hf => h.2.2 b hf h2) (fun hge => by have := A.lt h.2.1 b h2; omega)⟩,
    fun b hb => hb.elim (fun h1 => (t.near b h1).elim (fun hf => Or.inl (Or.inl hf)) Or.inr) (fun h2 => Or.inl (Or.inr h2))⟩
theorem Turns.rightT {w w' : World} {A O O' : Own} (h : (Own.both A O).holds w) (t : Turns w w' O O') : Turns w w' (Own.both A O) (Own.both A O') :=
  ⟨t.chg.mono fun _ _ hf => Or.inr hf, ⟨Own.chg h.1 t.chg (fun b h1 h2 => h.2.2 b h1 h2), t.now, fun b h1 h2 => (t.near b h2).elim (fun hf => h.2.2 b h1 hf) (fun hge => by have := A.lt h.1 b h1; omega)⟩,
    fun b hb => hb.elim (fun h1 => Or.inl (Or.inl h1)) (fun h2 => (t.near b h2).elim (fun hf => Or.inl (Or.inr hf)) Or.inr)⟩
/-- A new thing beside what is there. -/
theorem Turns.add {w w' : World} {O A : Own} (h : O.holds w) (t : Turns w w' Own.emp A) : Turns w w' O (Own.both A O) :=
  ⟨t.chg.mono fun _ _ hf => hf.elim, ⟨t.now, Own.chg h t.chg (fun _ _ hf => hf), fun b h1 h2 => (t.near b h1).elim (fun hf => hf) (fun hge => by have := O.lt h b h2; omega)⟩,
    fun b hb => hb.elim (fun h1 => (t.near b h1).elim (fun hf => hf.elim) Or.inr) Or.inl⟩
theorem Turns.dropL {w w' : World} {O A B : Own} (h : Turns w w' O (Own.both A B)) : Turns w w' O B := ⟨h.chg, h.now.2.1, fun b hb => h.near b (Or.inr hb)⟩
theorem Turns.dropR {w w' : World} {O A B : Own} (h : Turns w w' O (Own.both A B)) : Turns w w' O A := ⟨h.chg, h.now.1, fun b hb => h.near b (Or.inl hb)⟩
theorem Turns.emptied {w w' : World} {O A : Own} (h : Turns w w' O A) : Turns w w' O Own.emp := ⟨h.chg, trivial, fun _ hb => hb.elim⟩
theorem Turns.swap {w w' : World} {O A B : Own} (h : Turns w w' O (Own.both A B)) : Turns w w' O (Own.both B A) :=
  ⟨h.chg, ⟨h.now.2.1, h.now.1, fun b h1 h2 => h.now.2.2 b h2 h1⟩, fun b hb => h.near b (hb.elim Or.inr Or.inl)⟩

theorem Turns.addNil {w w' : World} {O A : Own} (h : Turns w w' O A) (E : TypeId) (size : Nat) : Turns w w' O (Own.both A (Own.row E size (.slice none 0 0) 0 [])) :=
  ⟨h.chg, ⟨h.now, World.ownsRow_nil _ _ _ _, fun b _ h2 => by cases h2⟩, fun b hb => hb.elim (h.near b) (fun h2 => by cases h2)⟩
theorem Blk.four {w : World} {b : Nat} {a0 a1 a2 a3 : Value} {T : TypeId} (h : Blk w b #[a0, a1, a2, a3] T) :
    w.cell? ⟨b, 0, none⟩ = some a0 ∧ w.cell? ⟨b, 1, none⟩ = some a1 ∧ w.cell? ⟨b, 2, none⟩ = some a2 ∧ w.cell? ⟨b, 3, none⟩ = some a3 ∧
    w.frozen? ⟨b, 0, none⟩ = false ∧ w.frozen? ⟨b, 1, none⟩ = false ∧ w.frozen? ⟨b, 2, none⟩ = false ∧ w.frozen? ⟨b, 3, none⟩ = false :=
  ⟨h.cell 0, h.cell 1, h.cell 2, h.cell 3, h.frozen 0, h.frozen 1, h.frozen 2, h.frozen 3⟩
/-- A block that is new stands while a thing that was there turns. -/
theorem Blk.beside {w W w' : World} {O O' : Own} {b : Nat} {cs : Array Value} {T : TypeId} (hO : O.holds w) (h : Blk W b cs T) (hb : w.heap.size ≤ b) (ht : Turns W w' O O') : Blk w' b cs T :=
  h.chg ht.chg (fun hf => by have := O.lt hO b hf; omega)
/-- Boxes that were made ahead of a step may be written behind it. -/
theorem Turns.boxes {w W w1 w2 : World} {O O' : Own} (h : O.holds w) (hw : Chg (fun _ => False) w W) (ht : Turns W w1 O O') (hc : Chg (fun b => w.heap.size ≤ b ∧ b < W.heap.size) w1 w2) : Turns w w2 O O' := by
  have hn : ∀ b, O'.foot b → ¬ (w.heap.size ≤ b ∧ b < W.heap.size) := fun b hb hx => by
    rcases ht.near b hb with hf | hge
    · have := O.lt h b hf; omega
    · omega
  refine ⟨?_, Own.chg ht.now hc hn, fun b hb => (ht.near b hb).elim Or.inl (fun hge => Or.inr (Nat.le_trans hw.size hge))⟩
  refine ⟨hc.os.trans (ht.chg.os.trans hw.os), hc.tape.trans (ht.chg.tape.trans hw.tape), hc.output.trans (ht.chg.output.trans hw.output), Nat.le_trans hw.size (Nat.le_trans ht.chg.size hc.size), fun k hk hS => ?_⟩
  have hkW : k < W.heap.size := Nat.lt_of_lt_of_le hk hw.size
  exact (hc.block k (Nat.lt_of_lt_of_le hkW ht.chg.size) (by omega)).trans ((ht.chg.block k hkW hS).trans (hw.block k hk id))
/-- A row's slice value, given in full. -/
theorem row_slice {w : World} {E : TypeId} {size n : Nat} {v : Value} {xs : List Value} (h : w.ownsRow 0 E size v n xs) : ∃ A c, v = .slice A n c := (Src.of_own h).len

section
variable {P : Program} (w : World)
/-- One element behind a row. -/
theorem wpList_app1 {ops : Array Oper} {rest : List Oper} {o : Oper} {a : Act} {Q : Exit → Act → World → Prop} (hgd : o.guard = none) (s x : Operand) (t : TypeId)
    (ho : o.op = .call { callee := .builtin .append, args := #[s, x], argTypes := #[t, t] })
    (e : TypeId) (i : TypeInfo) (z : Value) (size bytes : Nat) (ht : P.underlying t = some (.slice e)) (hi : P.info? e = some i) (hz : i.zero = some z)
    (hsize : i.size = size) (hby : i.bytes = bytes) (hzs : z.cells.size = size) (hsz : 0 < size)
    (v : Value) (n : Nat) (xs : List Value) (hs : a.eval s = v) (cs : Array Value) (T : TypeId) (b0 : Nat) (hx : a.eval x = .slice (some ⟨b0, 0, none⟩) 1 1) (hb0 : b0 = w.heap.size) (hown : w.ownsRow 0 e size v n xs)
    (hcs : cs.size = size) (h1 : ∀ u ∈ cs.toList, u.oneCell' = true)
    (h63 : n + 1 ≤ maxLen) (hbytes : (n + 1) * bytes ≤ 140737488355328)
    (h : ∀ g c w', n + 1 ≤ c → Turns w w' (Own.row e size v n xs) (Own.row e size (.slice (some ⟨g, 0, none⟩) (n + 1) c) (n + 1) (xs ++ cs.toList)) →
      wpList P ops Q rest (a.put o.dst (.slice (some ⟨g, 0, none⟩) (n + 1) c)) w') :
    wpList P ops Q (o :: rest) a (w.alloc (.cells cs T)) := by
  subst hb0
  have hT : Turns w (w.alloc (.cells cs T)) (Own.row e size v n xs) (Own.row e size v n xs) := Turns.alloc (Turns.refl (O := Own.row e size v n xs) hown) _
  refine wpList_append_own_at (w := w.alloc (.cells cs T)) hgd s x t ho 0 e i z size bytes ht hi hz hsize hby hzs hsz v n xs hs hT.now ⟨w.heap.size, 0, none⟩ 1 1 cs.toList hx (by simp [hcs]) ?_ h1 h63 hbytes (Nat.zero_le _) ?_
  · intro j u hj
    have ha : (⟨w.heap.size, 0, none⟩ : Addr).add j = ⟨w.heap.size, j, none⟩ := by unfold Addr.add; split <;> simp_all
    rw [ha, (Blk.new w cs T).cell]
    simpa using hj
  · intro v' w' ho' hg' _ hat
    have ho2 : w'.ownsRow 0 e size v' (n + 1) (xs ++ cs.toList) := ho'
    obtain ⟨g, c, rfl, _, hc⟩ := row_form ho2 (by omega)
    exact h g c w' hc (hT.trans (Turns.row ho2 hg' hat))
/-- What a slice shows, behind a row. -/
theorem wpList_appS {ops : Array Oper} {rest : List Oper} {o : Oper} {a : Act} {Q : Exit → Act → World → Prop} (hgd : o.guard = none) (s x : Operand) (t : TypeId)
    (ho : o.op = .call { callee := .builtin .append, args := #[s, x], argTypes := #[t, t] })
    (e : TypeId) (i : TypeInfo) (z : Value) (size bytes : Nat) (ht : P.underlying t = some (.slice e)) (hi : P.info? e = some i) (hz : i.zero = some z)
    (hsize : i.size = size) (hby : i.bytes = bytes) (hzs : z.cells.size = size) (hsz : 0 < size)
    (v : Value) (n : Nat) (xs : List Value) (hs : a.eval s = v) (hown : w.ownsRow 0 e size v n xs) (xv : Value) (m : Nat) (news : List Value) (hxe : a.eval x = xv) (hx : Src w xv m size news) (h1 : ∀ u ∈ news, u.oneCell' = true)
    (h63 : n + m ≤ maxLen) (hbytes : (n + m) * bytes ≤ 140737488355328)
    (h : ∀ A c w', Turns w w' (Own.row e size v n xs) (Own.row e size (.slice A (n + m) c) (n + m) (xs ++ news)) → wpList P ops Q rest (a.put o.dst (.slice A (n + m) c)) w') :
    wpList P ops Q (o :: rest) a w :=
  wpList_append_src w hgd s x t ho 0 e i z size bytes ht hi hz hsize hby hzs hsz v n xs hs hown xv m news hxe hx h1 h63 hbytes (Nat.zero_le _) fun v' w' ho' hg' hat => by
    obtain ⟨A, c, rfl⟩ := row_slice ho'
    exact h A c w' (Turns.row ho' hg' hat)
/-- A string's bytes, behind a row. -/
theorem wpList_appStr {ops : Array Oper} {rest : List Oper} {o : Oper} {a : Act} {Q : Exit → Act → World → Prop} (hgd : o.guard = none) (sl x : Operand) (t u : TypeId)
    (ho : o.op = .call { callee := .builtin .append, args := #[sl, x], argTypes := #[t, u] })
    (e : TypeId) (i : TypeInfo) (ht : P.underlying t = some (.slice e)) (hu : P.underlying u = some .string) (hi : P.info? e = some i) (hz : i.zero = some (.int .u8 0))
    (hsize : i.size = 1) (hby : i.bytes = 1)
    (v : Value) (n : Nat) (xs : List Value) (hs : a.eval sl = v) (hown : w.ownsRow 0 e 1 v n xs) (s : ByteArray) (hx : a.eval x = .string s)
    (h63 : n + s.size ≤ maxLen) (hbytes : n + s.size ≤ 140737488355328)
    (h : ∀ A c w', Turns w w' (Own.row e 1 v n xs) (Own.row e 1 (.slice A (n + s.size) c) (n + s.size) (xs ++ Lib.strCells s)) → wpList P ops Q rest (a.put o.dst (.slice A (n + s.size) c)) w') : wpList P ops Q (o :: rest) a w :=
  wpList_append_string_at w hgd sl x t u ho 0 e i ht hu hi hz hsize hby v n xs hs hown s hx h63 hbytes (Nat.zero_le _) fun v' w' ho' hg' hat => by
    obtain ⟨A, c, rfl⟩ := row_slice ho'
    exact h A c w' (Turns.row ho' hg' hat)
/-- A row that is made. -/
theorem wpList_makeT {ops : Array Oper} {rest : List Oper} {o : Oper} {a : Act} {Q : Exit → Act → World → Prop} (hg : o.guard = none) (l c : Operand) (t : TypeId) (hop : o.op = Op.makeSlice t l c)
    (e : TypeId) (i : TypeInfo) (z : Value) (size : Nat) (h1 : P.underlying t = some (.slice e)) (h2 : P.info? e = some i) (h3 : i.zero = some z) (h4 : i.size = size)
    (kl kc : IntKind) (L C : Int) (n : Nat) (hl : a.eval l = .int kl L) (hc : a.eval c = .int kc C) (hL : L = (n : Int)) (hC : C = (n : Int)) (b2 : i.bytes * n ≤ 281474976710656) (b3 : n ≤ maxLen)
    (hK : ∀ w', Turns w w' Own.emp (Own.row e size (.slice (some ⟨w.heap.size, 0, none⟩) n n) n (madeCells z.cells (n * size)).toList) → wpList P ops Q rest (a.put o.dst (.slice (some ⟨w.heap.size, 0, none⟩) n n)) w') :
    wpList P ops Q (o :: rest) a w :=
  wpList_make_full w hg l c t hop 0 e i z size h1 h2 h3 h4 kl kc L C n hl hc hL hC b2 b3 (Nat.zero_le _) fun w' ho hgr => hK w' ⟨Chg.mono (Chg.of_grown hgr) (fun _ _ h => by cases h), ho, fun b hb => by
    have hb : some w.heap.size = some b := hb
    cases hb; exact Or.inr (Nat.le_refl _)⟩
/-- A copy of all cells into a row of the same length. -/
theorem wpList_copyT {ops : Array Oper} {rest : List Oper} {o : Oper} {a : Act} {Q : Exit → Act → World → Prop} (hgd : o.guard = none) (d s : Operand) (dT sT : TypeId)
    (ho : o.op = .call { callee := .builtin .copy, args := #[d, s], argTypes := #[dT, sT] }) (e : TypeId) (hu : P.underlying dT = some (.slice e)) (hsz : (P.info? e).map (·.size) = some 1)
    (dv : Value) (n : Nat) (zs : List Value) (hd : a.eval d = dv) (hown : w.ownsRow 0 e 1 dv n zs) (sv : Value) (cs : List Value) (hs : a.eval s = sv) (hsrc : Src w sv n 1 cs) (h1 : ∀ u ∈ cs, u.oneCell' = true)
    (h : ∀ w', Turns w w' (Own.row e 1 dv n zs) (Own.row e 1 dv n cs) → wpList P ops Q rest (a.put o.dst (goInt n)) w') : wpList P ops Q (o :: rest) a w :=
  wpList_copy_all w hgd d s dT sT ho e hu hsz dv 0 n zs hd hown sv cs hs hsrc h1 fun w' ho hg => h w' (Turns.row ho hg (Or.inl rfl))
end
end Go.Hp
