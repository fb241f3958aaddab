/- Kept lists (Kt) whose elements have 7 cells. Printed by gen_km.py from Kp and Kt. -/
import Derived.Test.YtpaaghbmlenlfaaRw
import Derived.Test.YtpaaghbmlenlfaaKq
namespace Go.Hp.M7
open Go.RowKit Go.Hp
set_option linter.unusedSimpArgs false
set_option linter.unusedVariables false
/-- What is read of an owned slice stays while its block stands. -/
theorem Src.stayM {w w' : World} {v : Value} {n : Nat} {xs : List Value} (h : Src w v n 7 xs) (hb : ∀ b, v.ownBlock = some b → w'.heap[b]? = w.heap[b]?) : Src w' v n 7 xs := by
  refine ⟨h.1, ?_⟩
  rcases h.2 with hv | ⟨ad, c, hv, hc⟩
  · exact Or.inl hv
  · refine Or.inr ⟨ad, c, hv, fun j u hj => ?_⟩
    have e : (ad.add j).block = ad.block := by unfold Addr.add; split <;> rfl
    rw [World.cell?_of_block (w := w) (by rw [e]; exact hb ad.block (by rw [hv]; rfl))]
    exact hc j u hj
/-- A slice that was handed out, and the longer row that grew out of it: in its place, or elsewhere. -/
def Own.preM (E : TypeId) (v0 : Value) (n0 : Nat) (xs0 : List Value) (v : Value) (n : Nat) (xs : List Value) : Own :=
  ⟨fun b => v0.ownBlock = some b ∨ v.ownBlock = some b,
    fun w => w.ownsRow 0 E 7 v n xs ∧ Src w v0 n0 7 xs0 ∧ (v0.ownBlock = v.ownBlock → ∃ ys, xs = xs0 ++ ys) ∧ ∀ b, v0.ownBlock = some b → b < w.heap.size ∧ ∃ n c, v0 = .slice (some ⟨b, 0, none⟩) n c,
    fun h hb => ⟨row_heap h.1 fun b hf => hb b (Or.inr hf), Src.stayM h.2.1 fun b hf => hb b (Or.inl hf), h.2.2.1, fun b hf => ⟨lt_of_heap (h.2.2.2 b hf).1 (hb b (Or.inl hf)), (h.2.2.2 b hf).2⟩⟩,
    fun h b hb => hb.elim (fun hf => (h.2.2.2 b hf).1) (fun hf => (World.ownsRow.lt h.1 b hf).2)⟩
theorem Own.preM_start {w : World} {E : TypeId} {v : Value} {n : Nat} {xs : List Value} (h : (Own.row E 7 v n xs).holds w) : (Own.preM E v n xs v n xs).holds w := by
  have h : w.ownsRow 0 E 7 v n xs := h
  refine ⟨h, Src.of_own h, fun _ => ⟨[], by simp⟩, fun b hb => ⟨(World.ownsRow.lt h b hb).2, ?_⟩⟩
  rcases h.2 with ⟨rfl, _⟩ | ⟨g, cap, cur, rfl, _⟩
  · cases hb
  · have : g = b := by simpa [Value.ownBlock] using hb
    subst this
    exact ⟨_, _, rfl⟩
theorem Turns.preM_start {w : World} {E : TypeId} {v : Value} {n : Nat} {xs : List Value} (h : (Own.row E 7 v n xs).holds w) : Turns w w (Own.row E 7 v n xs) (Own.preM E v n xs v n xs) :=
  ⟨Chg.refl _ _, Own.preM_start h, fun b hb => hb.elim Or.inl Or.inl⟩
theorem Own.preM_row {w : World} {E : TypeId} {v0 : Value} {n0 : Nat} {xs0 : List Value} {v : Value} {n : Nat} {xs : List Value} (h : (Own.preM E v0 n0 xs0 v n xs).holds w) : w.ownsRow 0 E 7 v n xs := h.1
theorem Own.preM_old {w : World} {E : TypeId} {v0 : Value} {n0 : Nat} {xs0 : List Value} {v : Value} {n : Nat} {xs : List Value} (h : (Own.preM E v0 n0 xs0 v n xs).holds w) : Src w v0 n0 7 xs0 := h.2.1
theorem Turns.preM {w w' : World} {E : TypeId} {v0 : Value} {n0 : Nat} {xs0 : List Value} {v : Value} {n : Nat} {xs : List Value} {v' : Value} {n' : Nat} {ys : List Value} (h : (Own.preM E v0 n0 xs0 v n xs).holds w)
    (ht : Turns w w' (Own.row E 7 v n xs) (Own.row E 7 v' n' (xs ++ ys))) (hs : Stood w' v xs) (hat : v'.ownBlock = v.ownBlock ∨ ∃ b, v'.ownBlock = some b ∧ w.heap.size ≤ b) :
    Turns w w' (Own.preM E v0 n0 xs0 v n xs) (Own.preM E v0 n0 xs0 v' n' (xs ++ ys)) := by
  obtain ⟨h1, h2, h3, h4⟩ := h
  refine ⟨ht.chg.mono fun k _ hf => Or.inr hf, ⟨ht.now, ?_, fun he => ?_, fun b hb => ⟨Nat.lt_of_lt_of_le (h4 b hb).1 ht.chg.size, (h4 b hb).2⟩⟩, fun b hb => ?_⟩
  · by_cases hv : v0.ownBlock = v.ownBlock
    · obtain ⟨zs, hz⟩ := h3 hv
      refine ⟨h2.1, ?_⟩
      rcases h2.2 with hn | ⟨ad, c, hv0, hc⟩
      · exact Or.inl hn
      · have hb0 : v0.ownBlock = some ad.block := by rw [hv0]; rfl
        obtain ⟨_, n1, c1, hv1⟩ := h4 ad.block hb0
        have hade : ad = ⟨ad.block, 0, none⟩ := by
          rw [hv0] at hv1
          exact Option.some.inj (Value.slice.inj hv1).1
        refine Or.inr ⟨ad, c, hv0, fun j u hj => ?_⟩
        have e : ad.add j = ⟨ad.block, j, none⟩ := by
          generalize ad.block = bb at hade
          subst hade
          show (⟨bb, 0, none⟩ : Addr).add j = _
          unfold Addr.add
          split <;> simp_all
        rw [e]
        refine hs ad.block (by rw [← hv, hb0]) j u ?_
        rw [hz]
        exact (List.getElem?_append_left (List.getElem?_eq_some_iff.1 hj).1).trans hj
    · refine Src.stayM h2 fun b hb => ht.chg.block b (h4 b hb).1 fun hf => hv ?_
      have hf : v.ownBlock = some b := hf
      rw [hb, hf]
  · have hv : v0.ownBlock = v.ownBlock := by
      rcases hat with e | ⟨b, e, hb⟩
      · rw [he, e]
      · have := (h4 _ (he.trans e)).1
        omega
    obtain ⟨zs, hz⟩ := h3 hv
    exact ⟨zs ++ ys, by rw [hz, List.append_assoc]⟩
  · rcases hb with hb | hb
    · exact Or.inl (Or.inl hb)
    · exact (ht.near b hb).elim (fun hf => Or.inl (Or.inr hf)) Or.inr
section
variable {P : Program} (w : World)
theorem run_append_stoodM (t ty e : TypeId) (i : TypeInfo) (z : Value) (bytes : Nat) (ht : P.underlying t = some (.slice e)) (hi : P.info? e = some i) (hz : i.zero = some z)
    (hsize : i.size = 7) (hby : i.bytes = bytes) (hzs : z.cells.size = 7)
    (v : Value) (n : Nat) (xs : List Value) (hown : w.ownsRow 0 e 7 v n xs)
    (a : Addr) (m c : Nat) (news : List Value) (hl : news.length = m * 7) (hnews : ∀ j u, news[j]? = some u → w.cell? (a.add j) = some u) (h1 : ∀ u ∈ news, u.oneCell' = true)
    (h63 : n + m ≤ maxLen) (hbytes : (n + m) * bytes ≤ 140737488355328) :
    ∃ v' w', (Builtin.append_ #[t, t] ty #[v, .slice (some a) m c]).run P w = .ok v' w' ∧ w'.ownsRow 0 e 7 v' (n + m) (xs ++ news) ∧ w.grownBy w' v.ownBlock ∧
      (v'.ownBlock = v.ownBlock ∨ v'.ownBlock = some w.heap.size) ∧ Stood w' v xs := by
  obtain ⟨v', w', hr, k1, k2, k3, k4⟩ := run_append_own_at (P := P) w 0 t ty e i z 7 bytes ht hi hz hsize hby hzs (by omega) v n xs hown a m c news (by omega) hnews h1 h63 hbytes (Nat.zero_le _)
  refine ⟨v', w', hr, k1, k2, k4, fun g hg j u hj => ?_⟩
  rcases hown.2 with ⟨rfl, rfl⟩ | ⟨g', cap, cur, rfl, hbg, hh, hnc, hcm, hcs, htake⟩
  · cases hg
  · have : g' = g := by simpa [Value.ownBlock] using hg
    subst this
    have ha : ∀ j, (⟨g', 0, none⟩ : Addr).add j = ⟨g', j, none⟩ := fun j => by unfold Addr.add; split <;> simp_all
    have hwj : w.cell? ⟨g', j, none⟩ = some u := by rw [← ha]; exact World.ownsRow.cells (g := g') hown rfl j u hj
    by_cases hroom : n + m ≤ cap
    · obtain ⟨w2, hr2, hk2, _⟩ := run_append_fits (P := P) w 0 t ty e i 7 ht hi hsize g' n cap xs hown a m c news (by omega) hnews h1 hroom
      rw [hr] at hr2
      injection hr2 with _ e2
      subst e2
      rw [← ha]
      exact World.ownsRow.cells (g := g') hk2 rfl j u (by rw [List.getElem?_append_left (List.getElem?_eq_some_iff.1 hj).1]; exact hj)
    · have holds : ∀ j u, xs[j]? = some u → w.cell? ((⟨g', 0, none⟩ : Addr).add j) = some u := World.ownsRow.cells (g := g') hown rfl
      have hxl : xs.length = n * 7 := by have := hown.1; omega
      have hr2 := run_append_grow (P := P) w t ty e i z ht hi hz ⟨g', 0, none⟩ n cap xs (by rw [hsize]; omega) holds a m c news (by rw [hsize]; omega) hnews (by omega) (by simp only [maxLen] at h63; omega) (growslice_fits (by omega) (by rw [hby]; exact hbytes))
      rw [hr] at hr2
      injection hr2 with _ e2
      rw [e2]
      exact (World.cell?_of_block (w := w) (Below.heap_alloc w.drew _ _ (show g' < w.drew.heap.size from Blk.lt hh))).trans hwj
theorem cells_newM (w : World) (cs : Array Value) (T : TypeId) (j : Nat) (u : Value) (hj : cs.toList[j]? = some u) : (w.alloc (.cells cs T)).cell? ((⟨w.heap.size, 0, none⟩ : Addr).add j) = some u := by
  have ha : (⟨w.heap.size, 0, none⟩ : Addr).add j = ⟨w.heap.size, j, none⟩ := by unfold Addr.add; split <;> simp_all
  rw [ha, (Blk.new w cs T).cell]
  simpa using hj
/-- One element behind a row; what stood in it stands. -/
theorem wpList_appKM {ops : Array Oper} {rest : List Oper} {o : Oper} {a : Act} {Q : Exit → Act → World → Prop} (hgd : o.guard = none) (s x : Operand) (t : TypeId)
    (ho : o.op = .call { callee := .builtin .append, args := #[s, x], argTypes := #[t, t] })
    (e : TypeId) (i : TypeInfo) (z : Value) (bytes : Nat) (ht : P.underlying t = some (.slice e)) (hi : P.info? e = some i) (hz : i.zero = some z)
    (hsize : i.size = 7) (hby : i.bytes = bytes) (hzs : z.cells.size = 7)
    (v : Value) (n : Nat) (xs : List Value) (hs : a.eval s = v) (cs : Array Value) (T : TypeId) (b0 : Nat) (hx : a.eval x = .slice (some ⟨b0, 0, none⟩) 1 1) (hb0 : b0 = w.heap.size) (hown : w.ownsRow 0 e 7 v n xs)
    (hcs : cs.size = 7) (h1 : ∀ u ∈ cs.toList, u.oneCell' = true) (h63 : n + 1 ≤ maxLen) (hbytes : (n + 1) * bytes ≤ 140737488355328)
    (h : ∀ g c w', n + 1 ≤ c → Turns w w' (Own.row e 7 v n xs) (Own.row e 7 (.slice (some ⟨g, 0, none⟩) (n + 1) c) (n + 1) (xs ++ cs.toList)) → Stood w' v xs → (some g = v.ownBlock ∨ w.heap.size ≤ g) →
      wpList P ops Q rest (a.put o.dst (.slice (some ⟨g, 0, none⟩) (n + 1) c)) w') :
    wpList P ops Q (o :: rest) a (w.alloc (.cells cs T)) := by
  subst hb0
  have hT : Turns w (w.alloc (.cells cs T)) (Own.row e 7 v n xs) (Own.row e 7 v n xs) := Turns.alloc (Turns.refl (O := Own.row e 7 v n xs) hown) _
  refine wpList_plain hgd fun K hK => ?_
  obtain ⟨v', w', hr, h2, h3, h4, h5⟩ := run_append_stoodM (P := P) (w.alloc (.cells cs T)) t o.type e i z bytes ht hi hz hsize hby hzs v n xs hT.now ⟨w.heap.size, 0, none⟩ 1 1 cs.toList (by simp [hcs]) (cells_newM w cs T) h1 h63 hbytes
  unfold Oper.wp execOp
  simp only [ho, resolve, invoke, builtin, Sem.run_bind, Sem.run_pure, Result.andThen_ok, List.map_toArray, List.map_cons, List.map_nil, hs, hx, hr]
  obtain ⟨g, c, rfl, _, hc⟩ := row_form h2 (by omega)
  refine hK _ _ (h g c w' hc (hT.trans (Turns.row h2 h3 h4)) h5 ?_)
  rcases h4 with h4 | h4
  · exact Or.inl h4
  · have : g = (w.alloc (.cells cs T)).heap.size := by simpa [Value.ownBlock] using h4
    right
    rw [this]
    simp
end
abbrev SrcsM := List (Value × Nat × List Value)
/-- Slices that can be read. -/
def Own.srcsM (S : SrcsM) : Own :=
  ⟨fun b => ∃ s ∈ S, s.1.ownBlock = some b, fun w => ∀ s ∈ S, Src w s.1 s.2.1 7 s.2.2 ∧ ∀ b, s.1.ownBlock = some b → b < w.heap.size ∧ ∃ n c, s.1 = .slice (some ⟨b, 0, none⟩) n c,
    fun h hb s hs => ⟨Src.stayM (h s hs).1 fun b hf => hb b ⟨s, hs, hf⟩, fun b hf => ⟨lt_of_heap ((h s hs).2 b hf).1 (hb b ⟨s, hs, hf⟩), ((h s hs).2 b hf).2⟩⟩,
    fun h b hb => by obtain ⟨s, hs, hf⟩ := hb; exact ((h s hs).2 b hf).1⟩
theorem own_formM {w : World} {E : TypeId} {s n : Nat} {v : Value} {xs : List Value} (h : w.ownsRow 0 E s v n xs) (b : Nat) (hb : v.ownBlock = some b) : ∃ n c, v = .slice (some ⟨b, 0, none⟩) n c := by
  rcases h.2 with ⟨rfl, _⟩ | ⟨g, cap, cur, rfl, _⟩
  · cases hb
  · have : g = b := by simpa [Value.ownBlock] using hb
    subst this
    exact ⟨_, _, rfl⟩
theorem Turns.srcs_addM {w : World} {S T : SrcsM} {A : Own} (h : (Own.both (Own.srcsM S) A).holds w) (hT : (Own.srcsM T).holds w) (hf : ∀ b, (Own.srcsM T).foot b → A.foot b) : Turns w w (Own.both (Own.srcsM S) A) (Own.srcsM (S ++ T)) :=
  ⟨Chg.refl _ _, fun s hs => (List.mem_append.1 hs).elim (h.1 s) (hT s), fun b hb => by
    obtain ⟨s, hs, hb⟩ := hb
    exact (List.mem_append.1 hs).elim (fun h1 => Or.inl (Or.inl ⟨s, h1, hb⟩)) (fun h1 => Or.inl (Or.inr (hf b ⟨s, h1, hb⟩)))⟩
theorem Own.srcsM_row {w : World} {E : TypeId} {v : Value} {n : Nat} {xs : List Value} (h : (Own.row E 7 v n xs).holds w) : (Own.srcsM [(v, n, xs)]).holds w := fun s hs => by
  simp only [List.mem_singleton] at hs
  subst hs
  exact ⟨Src.of_own h, fun b hb => ⟨Own.lt _ h b hb, own_formM h b hb⟩⟩
theorem Own.srcsM_pre {w : World} {E : TypeId} {v0 v : Value} {n0 n : Nat} {xs0 xs : List Value} (h : (Own.preM E v0 n0 xs0 v n xs).holds w) : (Own.srcsM [(v0, n0, xs0), (v, n, xs)]).holds w := fun s hs => by
  simp only [List.mem_cons, List.mem_nil_iff, or_false] at hs
  rcases hs with rfl | rfl
  · exact ⟨Own.preM_old h, fun b hb => h.2.2.2 b hb⟩
  · exact ⟨Src.of_own (Own.preM_row h), fun b hb => ⟨Own.lt _ h b (Or.inr hb), own_formM (Own.preM_row h) b hb⟩⟩
inductive TM where
  | outs | wants | old | x | z | o (i : Nat) | c (i : Nat)
deriving DecidableEq
structure KM where
  ov : Value
  wv : Value
  M : Nat
  out : Nat → Value
  want : Nat → Value
  len : Nat → Nat
  xs : Nat → List Value
  fr : Nat → Bool
  S : SrcsM
def KM.fam (k : KM) (SE E : TypeId) : TM → Own
  | .outs => Own.row SE 1 k.ov k.M ((List.range k.M).map k.out)
  | .wants => Own.row SE 1 k.wv k.M ((List.range k.M).map k.want)
  | .old => Own.srcsM k.S
  | .x => Own.emp
  | .z => Own.emp
  | .o i => if k.fr i = true then Own.row E 7 (k.out i) (k.len i) (k.xs i) else Own.emp
  | .c i => if k.fr i = true then Own.row E 7 (k.want i) (k.len i) (k.xs i) else Own.emp
def KM.own (k : KM) (SE E : TypeId) : Own := Own.fam (k.fam SE E)
/-- Those from lo on are fresh, up to hi; the others stand. -/
structure KM.Wf (k : KM) (lo hi : Nat) : Prop where
  hib : hi ≤ k.M
  lob : lo ≤ hi
  fr : ∀ i, k.fr i = decide (lo ≤ i ∧ i < hi)
  old : ∀ i, i < k.M → k.fr i = false → (k.out i, k.len i, k.xs i) ∈ k.S ∧ (k.want i, k.len i, k.xs i) ∈ k.S
variable {k : KM} {SE E : TypeId} {lo hi : Nat} {w : World}
theorem KM.Wf.no (h : k.Wf lo hi) {i : Nat} (hi : k.M ≤ i) : k.fr i = false := by
  rw [h.fr, decide_eq_false_iff_not]
  have := h.hib
  omega
theorem KM.reads (h : (k.own SE E).holds w) (hw : k.Wf lo hi) {i : Nat} (hi : i < k.M) : Src w (k.out i) (k.len i) 7 (k.xs i) ∧ Src w (k.want i) (k.len i) 7 (k.xs i) := by
  cases hf : k.fr i with
  | true =>
    have h1 := h.1 (.o i)
    have h2 := h.1 (.c i)
    simp only [KM.fam, if_pos hf] at h1 h2
    exact ⟨Src.of_own (show w.ownsRow 0 E 7 (k.out i) (k.len i) (k.xs i) from h1), Src.of_own (show w.ownsRow 0 E 7 (k.want i) (k.len i) (k.xs i) from h2)⟩
  | false =>
    obtain ⟨h1, h2⟩ := hw.old i hi hf
    exact ⟨(h.1 .old _ h1).1, (h.1 .old _ h2).1⟩
theorem KM.forms (h : (k.own SE E).holds w) (hw : k.Wf lo hi) {i : Nat} (hi : i < k.M) : (∀ b, (k.out i).ownBlock = some b → b < w.heap.size ∧ ∃ n c, k.out i = .slice (some ⟨b, 0, none⟩) n c) ∧ ∀ b, (k.want i).ownBlock = some b → b < w.heap.size ∧ ∃ n c, k.want i = .slice (some ⟨b, 0, none⟩) n c := by
  cases hf : k.fr i with
  | true =>
    have h1 := h.1 (.o i)
    have h2 := h.1 (.c i)
    simp only [KM.fam, if_pos hf] at h1 h2
    exact ⟨fun b hb => ⟨Own.lt _ h1 b hb, own_formM h1 b hb⟩, fun b hb => ⟨Own.lt _ h2 b hb, own_formM h2 b hb⟩⟩
  | false =>
    obtain ⟨h1, h2⟩ := hw.old i hi hf
    exact ⟨(h.1 .old _ h1).2, (h.1 .old _ h2).2⟩
theorem KM.outs (h : (k.own SE E).holds w) : w.ownsRow 0 SE 1 k.ov k.M ((List.range k.M).map k.out) := h.1 .outs
theorem KM.wants (h : (k.own SE E).holds w) : w.ownsRow 0 SE 1 k.wv k.M ((List.range k.M).map k.want) := h.1 .wants
/-- The place of the i-th slice, and what lies there. -/
theorem KM.at_ (h : (k.own SE E).holds w) {i : Nat} (hi : i < k.M) : ∃ go co gw cw, k.ov = .slice (some ⟨go, 0, none⟩) k.M co ∧ k.wv = .slice (some ⟨gw, 0, none⟩) k.M cw ∧
    w.cell? ⟨go, i, none⟩ = some (k.out i) ∧ w.cell? ⟨gw, i, none⟩ = some (k.want i) := by
  have h1 := KM.outs h
  have h2 := KM.wants h
  obtain ⟨go, co, e1, _, _⟩ := row_form h1 (by omega)
  obtain ⟨gw, cw, e2, _, _⟩ := row_form h2 (by omega)
  rw [e1] at h1
  rw [e2] at h2
  exact ⟨go, co, gw, cw, e1, e2, (row_at h1 i (range_at _ hi)).1, (row_at h2 i (range_at _ hi)).1⟩
/-- One more, fresh. -/
def KM.add (k : KM) (ov wv x y : Value) (n : Nat) (zs : List Value) : KM :=
  ⟨ov, wv, k.M + 1, fun i => if i = k.M then x else k.out i, fun i => if i = k.M then y else k.want i, fun i => if i = k.M then n else k.len i, fun i => if i = k.M then zs else k.xs i, fun i => if i = k.M then true else k.fr i, k.S⟩
theorem KM.kept (k : KM) (SE E : TypeId) (ov wv x y : Value) (n : Nat) (zs : List Value) :
    ∀ i, upd (upd (upd (upd (k.fam SE E) (.o k.M) (Own.row E 7 x n zs)) .outs (Own.row SE 1 ov (k.M + 1) ((List.range k.M).map k.out ++ [x]))) (.c k.M) (Own.row E 7 y n zs)) .wants (Own.row SE 1 wv (k.M + 1) ((List.range k.M).map k.want ++ [y])) i = (k.add ov wv x y n zs).fam SE E i := by
  intro i
  cases i with
  | outs =>
    show Own.row SE 1 ov (k.M + 1) _ = Own.row SE 1 ov (k.M + 1) ((List.range (k.M + 1)).map (fun i => if i = k.M then x else k.out i))
    rw [range_add]
  | wants =>
    show Own.row SE 1 wv (k.M + 1) _ = Own.row SE 1 wv (k.M + 1) ((List.range (k.M + 1)).map (fun i => if i = k.M then y else k.want i))
    rw [range_add]
  | old => rfl
  | x => rfl
  | z => rfl
  | o i =>
    by_cases h : i = k.M
    · subst h; simp [upd, KM.fam, KM.add]
    · simp [upd, KM.fam, KM.add, h]
  | c i =>
    by_cases h : i = k.M
    · subst h; simp [upd, KM.fam, KM.add]
    · simp [upd, KM.fam, KM.add, h]
theorem KM.Wf.add (h : k.Wf lo k.M) (ov wv x y : Value) (n : Nat) (zs : List Value) : (k.add ov wv x y n zs).Wf lo (k.M + 1) := by
  refine ⟨Nat.le_refl _, Nat.le_succ_of_le h.lob, fun i => ?_, fun i hi hf => ?_⟩
  · show (if i = k.M then true else k.fr i) = _
    by_cases e : i = k.M
    · rw [if_pos e, eq_comm, decide_eq_true_eq]
      have := h.lob
      omega
    · rw [if_neg e, h.fr, decide_eq_decide]
      omega
  · have e : i ≠ k.M := fun e => by subst e; simp [KM.add] at hf
    have hi : i < k.M + 1 := hi
    have hf : (if i = k.M then true else k.fr i) = false := hf
    rw [if_neg e] at hf
    have := h.old i (by omega) hf
    show (((if i = k.M then x else k.out i), (if i = k.M then n else k.len i), (if i = k.M then zs else k.xs i)) ∈ k.S) ∧ (((if i = k.M then y else k.want i), (if i = k.M then n else k.len i), (if i = k.M then zs else k.xs i)) ∈ k.S)
    rw [if_neg e, if_neg e, if_neg e, if_neg e]
    exact this
/-- One has turned, in both. -/
def KM.put (k : KM) (i : Nat) (zs : List Value) : KM := { k with xs := fun j => if j = i then zs else k.xs j }
theorem KM.Wf.put (h : k.Wf lo hi) {i : Nat} (hi' : k.fr i = true) (zs : List Value) : (k.put i zs).Wf lo hi := by
  refine ⟨h.hib, h.lob, h.fr, fun j hj hf => ?_⟩
  have hf : k.fr j = false := hf
  have e : j ≠ i := fun e => by subst e; exact absurd (hi'.symm.trans hf) (by simp)
  show ((k.out j, k.len j, (if j = i then zs else k.xs j)) ∈ k.S) ∧ ((k.want j, k.len j, (if j = i then zs else k.xs j)) ∈ k.S)
  rw [if_neg e]
  exact h.old j hj hf
theorem KM.marked (k : KM) (SE E : TypeId) (i : Nat) (hi : k.fr i = true) (zs : List Value) :
    ∀ j, upd (upd (k.fam SE E) (.o i) (Own.row E 7 (k.out i) (k.len i) zs)) (.c i) (Own.row E 7 (k.want i) (k.len i) zs) j = (k.put i zs).fam SE E j := by
  intro j
  cases j with
  | outs => rfl
  | wants => rfl
  | old => rfl
  | x => rfl
  | z => rfl
  | o j =>
    by_cases h : j = i
    · subst h; simp [upd, KM.fam, KM.put, hi]
    · simp [upd, KM.fam, KM.put, h]
  | c j =>
    by_cases h : j = i
    · subst h; simp [upd, KM.fam, KM.put, hi]
    · simp [upd, KM.fam, KM.put, h]
/-- The two places where a fresh one lies, neither beside the other nor beside the rows. -/
theorem KM.apart (h : (k.own SE E).holds w) {i : Nat} (hi : k.fr i = true) (hl : 0 < k.len i) :
    ∃ bo co bw cw, k.out i = .slice (some ⟨bo, 0, none⟩) (k.len i) co ∧ k.want i = .slice (some ⟨bw, 0, none⟩) (k.len i) cw ∧ w.ownsRow 0 E 7 (.slice (some ⟨bo, 0, none⟩) (k.len i) co) (k.len i) (k.xs i) ∧ w.ownsRow 0 E 7 (.slice (some ⟨bw, 0, none⟩) (k.len i) cw) (k.len i) (k.xs i) ∧
      (k.own SE E).foot bo ∧ (k.own SE E).foot bw ∧ bo ≠ bw ∧ (∀ g n c, k.wv = .slice (some ⟨g, 0, none⟩) n c → bo ≠ g ∧ bw ≠ g) ∧ (∀ g n c, k.ov = .slice (some ⟨g, 0, none⟩) n c → bo ≠ g ∧ bw ≠ g) := by
  have h1 := h.1 (.o i)
  have h2 := h.1 (.c i)
  simp only [KM.fam, if_pos hi] at h1 h2
  obtain ⟨bo, co, e1, _, _⟩ := row_form (show w.ownsRow 0 E 7 (k.out i) (k.len i) (k.xs i) from h1) hl
  obtain ⟨bw, cw, e2, _, _⟩ := row_form (show w.ownsRow 0 E 7 (k.want i) (k.len i) (k.xs i) from h2) hl
  have f1 : (k.fam SE E (.o i)).foot bo := by
    simp only [KM.fam, if_pos hi]
    show (k.out i).ownBlock = some bo
    rw [e1]; rfl
  have f2 : (k.fam SE E (.c i)).foot bw := by
    simp only [KM.fam, if_pos hi]
    show (k.want i).ownBlock = some bw
    rw [e2]; rfl
  refine ⟨bo, co, bw, cw, e1, e2, by rw [← e1]; exact h1, by rw [← e2]; exact h2, ⟨_, f1⟩, ⟨_, f2⟩, ?_, ?_, ?_⟩
  · intro e; have := h.2 (.o i) (.c i) bo f1 (e ▸ f2); cases this
  · intro g n c hv
    refine ⟨fun e => ?_, fun e => ?_⟩
    · have := h.2 (.o i) .wants bo f1 (by show k.wv.ownBlock = some bo; rw [hv, e]; rfl)
      cases this
    · have := h.2 (.c i) .wants bw f2 (by show k.wv.ownBlock = some bw; rw [hv, e]; rfl)
      cases this
  · intro g n c hv
    refine ⟨fun e => ?_, fun e => ?_⟩
    · have := h.2 (.o i) .outs bo f1 (by show k.ov.ownBlock = some bo; rw [hv, e]; rfl)
      cases this
    · have := h.2 (.c i) .outs bw f2 (by show k.ov.ownBlock = some bw; rw [hv, e]; rfl)
      cases this
/-- A mark, in both. -/
theorem KM.mark (h : (k.own SE E).holds w) {i : Nat} (hi : k.fr i = true) {bo co bw cw : Nat} (e1 : k.out i = .slice (some ⟨bo, 0, none⟩) (k.len i) co) (e2 : k.want i = .slice (some ⟨bw, 0, none⟩) (k.len i) cw) (j : Nat) (v : Value) :
    ∃ O1, Turns w (w.setCell ⟨bo, j, none⟩ v) (k.own SE E) O1 ∧ ∀ W, Chg (fun _ => False) (w.setCell ⟨bo, j, none⟩ v) W → Turns (w.setCell ⟨bo, j, none⟩ v) (W.setCell ⟨bw, j, none⟩ v) O1 ((k.put i ((k.xs i).set j v)).own SE E) := by
  have h1 := h.1 (.o i)
  simp only [KM.fam, if_pos hi] at h1
  rw [e1] at h1
  have t1 := Turns.famE h (.o i) (O := Own.row E 7 (k.out i) (k.len i) (k.xs i)) (by simp only [KM.fam, if_pos hi]) (by rw [e1]; exact Turns.row_set h1 j v)
  refine ⟨_, t1, fun W hc => ?_⟩
  have t1' := Turns.refl (Own.fam_chg t1.now hc)
  have h2 : (Own.row E 7 (k.want i) (k.len i) (k.xs i)).holds W := by
    have := t1'.now.1 (.c i)
    simpa only [upd, reduceCtorEq, if_false, KM.fam, if_pos hi] using this
  rw [e2] at h2
  have t2 := Turns.famE t1'.now (.c i) (O := Own.row E 7 (k.want i) (k.len i) (k.xs i)) (by simp only [upd, reduceCtorEq, if_false, KM.fam, if_pos hi]) (by rw [e2]; exact Turns.row_set h2 j v)
  have t3 := (Turns.of_kept t1.now hc).trans t2
  refine t3.to ?_
  rw [← e1, ← e2]
  exact Own.fam_as (KM.marked k SE E i hi _)
/-- One has grown: it and what grew out of it stand now, with what they must read as. -/
def KM.grow (k : KM) (i : Nat) (ov wv x y : Value) (n : Nat) (zs : List Value) : KM :=
  ⟨ov, wv, k.M + 1, fun j => if j = k.M then x else k.out j, fun j => if j = k.M then y else k.want j, fun j => if j = k.M then n else k.len j, fun j => if j = k.M then zs else k.xs j, fun j => if j = i then false else k.fr j,
    k.S ++ [(k.out i, k.len i, k.xs i), (x, n, zs)] ++ [(y, n, zs)] ++ [(k.want i, k.len i, k.xs i)]⟩
theorem KM.Wf.grow (h : k.Wf lo hi) (hl : lo < hi) (ov wv x y : Value) (n : Nat) (zs : List Value) : (k.grow lo ov wv x y n zs).Wf (lo + 1) hi := by
  refine ⟨Nat.le_succ_of_le h.hib, hl, fun j => ?_, fun j hj hf => ?_⟩
  · show (if j = lo then false else k.fr j) = _
    by_cases e : j = lo
    · rw [if_pos e, eq_comm, decide_eq_false_iff_not]
      omega
    · rw [if_neg e, h.fr, decide_eq_decide]
      omega
  · have hj : j < k.M + 1 := hj
    have hf : (if j = lo then false else k.fr j) = false := hf
    show (((if j = k.M then x else k.out j), (if j = k.M then n else k.len j), (if j = k.M then zs else k.xs j)) ∈ k.S ++ [(k.out lo, k.len lo, k.xs lo), (x, n, zs)] ++ [(y, n, zs)] ++ [(k.want lo, k.len lo, k.xs lo)]) ∧
      (((if j = k.M then y else k.want j), (if j = k.M then n else k.len j), (if j = k.M then zs else k.xs j)) ∈ k.S ++ [(k.out lo, k.len lo, k.xs lo), (x, n, zs)] ++ [(y, n, zs)] ++ [(k.want lo, k.len lo, k.xs lo)])
    by_cases e : j = k.M
    · rw [if_pos e, if_pos e, if_pos e, if_pos e]
      exact ⟨by simp, by simp⟩
    · rw [if_neg e, if_neg e, if_neg e, if_neg e]
      by_cases e2 : j = lo
      · subst e2
        exact ⟨by simp, by simp⟩
      · rw [if_neg e2] at hf
        obtain ⟨h1, h2⟩ := h.old j (by omega) hf
        exact ⟨by simp [h1], by simp [h2]⟩
theorem KM.settle (k : KM) {w : World} {SE E : TypeId} {i : Nat} {ov wv x y : Value} {n : Nat} {zs : List Value} {F : TM → Own} (hi : k.fr i = true) (hM : k.fr k.M = false) (h : (Own.fam F).holds w)
    (fold : F .old = Own.srcsM k.S) (fx : F .x = Own.preM E (k.out i) (k.len i) (k.xs i) x n zs) (fz : F .z = Own.row E 7 y n zs) (fo : ∀ j, F (.o j) = if j = i then Own.emp else k.fam SE E (.o j)) (fc : ∀ j, F (.c j) = k.fam SE E (.c j))
    (fouts : F .outs = Own.row SE 1 ov (k.M + 1) ((List.range k.M).map k.out ++ [x])) (fwants : F .wants = Own.row SE 1 wv (k.M + 1) ((List.range k.M).map k.want ++ [y])) :
    Turns w w (Own.fam F) ((k.grow i ov wv x y n zs).own SE E) := by
  have fci : F (.c i) = Own.row E 7 (k.want i) (k.len i) (k.xs i) := by rw [fc]; simp [KM.fam, hi]
  have hx := h.1 .x
  rw [fx] at hx
  have hz := h.1 .z
  rw [fz] at hz
  have hc := h.1 (.c i)
  rw [fci] at hc
  have t1 := Turns.fam2 h (i := .old) (j := .x) (by simp) fold fx
    (Turns.srcs_addM (Own.fam_both h (i := .old) (j := .x) (by simp) fold fx) (Own.srcsM_pre hx) (fun b hb => by
      obtain ⟨s, hs, hb⟩ := hb
      simp only [List.mem_cons, List.mem_nil_iff, or_false] at hs
      rcases hs with rfl | rfl
      · exact Or.inl hb
      · exact Or.inr hb))
  have e2 : upd (upd F .old (Own.srcsM (k.S ++ [(k.out i, k.len i, k.xs i), (x, n, zs)]))) .x Own.emp .z = Own.row E 7 y n zs := by simp [upd, fz]
  have t2 := Turns.fam2 t1.now (i := .old) (j := .z) (by simp) (A := Own.srcsM (k.S ++ [(k.out i, k.len i, k.xs i), (x, n, zs)])) (B := Own.row E 7 y n zs) (by simp [upd]) e2
    (Turns.srcs_addM (Own.fam_both t1.now (i := .old) (j := .z) (by simp) (by simp [upd]) e2) (Own.srcsM_row hz) (fun b hb => by
      obtain ⟨s, hs, hb⟩ := hb
      simp only [List.mem_singleton] at hs
      subst hs
      exact hb))
  have e3 : upd (upd (upd (upd F .old (Own.srcsM (k.S ++ [(k.out i, k.len i, k.xs i), (x, n, zs)]))) .x Own.emp) .old (Own.srcsM (k.S ++ [(k.out i, k.len i, k.xs i), (x, n, zs)] ++ [(y, n, zs)]))) .z Own.emp (.c i) = Own.row E 7 (k.want i) (k.len i) (k.xs i) := by simp [upd, fci]
  have t3 := Turns.fam2 t2.now (i := .old) (j := .c i) (by simp) (A := Own.srcsM (k.S ++ [(k.out i, k.len i, k.xs i), (x, n, zs)] ++ [(y, n, zs)])) (B := Own.row E 7 (k.want i) (k.len i) (k.xs i)) (by simp [upd]) e3
    (Turns.srcs_addM (Own.fam_both t2.now (i := .old) (j := .c i) (by simp) (by simp [upd]) e3) (Own.srcsM_row hc) (fun b hb => by
      obtain ⟨s, hs, hb⟩ := hb
      simp only [List.mem_singleton] at hs
      subst hs
      exact hb))
  refine (t1.trans (t2.trans t3)).to ?_
  refine Own.fam_as fun j => ?_
  cases j with
  | outs =>
    show F .outs = Own.row SE 1 ov (k.M + 1) ((List.range (k.M + 1)).map (fun i => if i = k.M then x else k.out i))
    rw [range_add, fouts]
  | wants =>
    show F .wants = Own.row SE 1 wv (k.M + 1) ((List.range (k.M + 1)).map (fun i => if i = k.M then y else k.want i))
    rw [range_add, fwants]
  | old => simp [upd, KM.fam, KM.grow]
  | x => simp [upd, KM.fam, KM.grow]
  | z => simp [upd, KM.fam, KM.grow]
  | o j =>
    by_cases e : j = i
    · subst e; simp [upd, KM.fam, KM.grow, fo]
    · by_cases e2 : j = k.M
      · subst e2; simp [upd, KM.fam, KM.grow, e, hM, fo]
      · simp [upd, KM.fam, KM.grow, e, e2, fo]
  | c j =>
    by_cases e : j = i
    · subst e; simp [upd, KM.fam, KM.grow]
    · by_cases e2 : j = k.M
      · subst e2; simp [upd, KM.fam, KM.grow, e, hM, fc]
      · simp [upd, KM.fam, KM.grow, e, e2, fc]
/-- A fresh one is taken out, to grow. -/
theorem KM.take (k : KM) {w : World} {SE E : TypeId} {i : Nat} (hi : k.fr i = true) (h : (k.own SE E).holds w) : Turns w w (k.own SE E) (Own.fam (upd (upd (k.fam SE E) .x (Own.preM E (k.out i) (k.len i) (k.xs i) (k.out i) (k.len i) (k.xs i))) (.o i) Own.emp)) := by
  have e : k.fam SE E (.o i) = Own.row E 7 (k.out i) (k.len i) (k.xs i) := by simp [KM.fam, hi]
  have hb := Own.fam_both h (i := .x) (j := .o i) (by simp) (A := Own.emp) rfl e
  exact Turns.fam2 h (i := .x) (j := .o i) (by simp) (A := Own.emp) rfl e ((Turns.dropL (Turns.refl hb)).trans (Turns.preM_start hb.2.1))
def KM.wx (k : KM) (f : Nat → List Value) : KM := { k with xs := f }
theorem KM.markO (k : KM) {w : World} {SE E : TypeId} (h : (k.own SE E).holds w) {i : Nat} (hi : k.fr i = true) {bo co : Nat} (e1 : k.out i = .slice (some ⟨bo, 0, none⟩) (k.len i) co) (j : Nat) (v : Value) :
    Turns w (w.setCell ⟨bo, j, none⟩ v) (k.own SE E) (Own.fam (upd (k.fam SE E) (.o i) (Own.row E 7 (k.out i) (k.len i) ((k.xs i).set j v)))) := by
  have h1 := h.1 (.o i)
  simp only [KM.fam, if_pos hi] at h1
  rw [e1] at h1
  have t1 := Turns.famE h (.o i) (O := Own.row E 7 (k.out i) (k.len i) (k.xs i)) (by simp only [KM.fam, if_pos hi]) (by rw [e1]; exact Turns.row_set h1 j v)
  rw [← e1] at t1
  exact t1
theorem KM.markC (k : KM) {w : World} {SE E : TypeId} {i j : Nat} {v : Value} (h : (Own.fam (upd (k.fam SE E) (.o i) (Own.row E 7 (k.out i) (k.len i) ((k.xs i).set j v)))).holds w) (hi : k.fr i = true) {bw cw : Nat} (e2 : k.want i = .slice (some ⟨bw, 0, none⟩) (k.len i) cw) :
    Turns w (w.setCell ⟨bw, j, none⟩ v) (Own.fam (upd (k.fam SE E) (.o i) (Own.row E 7 (k.out i) (k.len i) ((k.xs i).set j v)))) ((k.put i ((k.xs i).set j v)).own SE E) := by
  have h2 : (Own.row E 7 (k.want i) (k.len i) (k.xs i)).holds w := by
    have := h.1 (.c i)
    simpa only [upd, reduceCtorEq, if_false, KM.fam, if_pos hi] using this
  rw [e2] at h2
  have t2 := Turns.famE h (.c i) (O := Own.row E 7 (k.want i) (k.len i) (k.xs i)) (by simp only [upd, reduceCtorEq, if_false, KM.fam, if_pos hi]) (by rw [e2]; exact Turns.row_set h2 j v)
  refine t2.to ?_
  rw [← e2]
  exact Own.fam_as (KM.marked k SE E i hi _)
def KM.empty : KM := ⟨.slice none 0 0, .slice none 0 0, 0, fun _ => .slice none 0 0, fun _ => .slice none 0 0, fun _ => 0, fun _ => [], fun _ => false, []⟩
theorem KM.Wf.empty : KM.empty.Wf 0 0 := ⟨Nat.le_refl _, Nat.le_refl _, fun i => by simp [KM.empty], fun i hi => by simp [KM.empty] at hi⟩
theorem KM.start (w : World) (SE E : TypeId) : Turns w w Own.emp (KM.empty.own SE E) := by
  refine ⟨Chg.refl _ _, ⟨fun i => ?_, fun i j b hi hj => ?_⟩, fun b hb => ?_⟩
  · cases i with
    | outs => exact World.ownsRow_nil _ _ _ _
    | wants => exact World.ownsRow_nil _ _ _ _
    | old => intro s hs; cases hs
    | x => trivial
    | z => trivial
    | o i => simp [KM.fam, KM.empty, Own.emp]
    | c i => simp [KM.fam, KM.empty, Own.emp]
  · cases i with
    | outs => cases hi
    | wants => cases hi
    | old => obtain ⟨s, hs, _⟩ := hi; cases hs
    | x => exact hi.elim
    | z => exact hi.elim
    | o i => simp [KM.fam, KM.empty, Own.emp] at hi
    | c i => simp [KM.fam, KM.empty, Own.emp] at hi
  · obtain ⟨i, hi⟩ := hb
    cases i with
    | outs => cases hi
    | wants => cases hi
    | old => obtain ⟨s, hs, _⟩ := hi; cases hs
    | x => exact hi.elim
    | z => exact hi.elim
    | o i => simp [KM.fam, KM.empty, Own.emp] at hi
    | c i => simp [KM.fam, KM.empty, Own.emp] at hi
theorem KM.rowO {k : KM} {w : World} {SE E : TypeId} (h : (k.own SE E).holds w) {i : Nat} (hi : k.fr i = true) {v : Value} {n : Nat} (e : k.out i = v) (en : k.len i = n) : w.ownsRow 0 E 7 v n (k.xs i) := by
  have := h.1 (.o i)
  simp only [KM.fam, if_pos hi] at this
  rw [e, en] at this
  exact this
theorem KM.rowC {k : KM} {w : World} {SE E : TypeId} (h : (k.own SE E).holds w) {i : Nat} (hi : k.fr i = true) {v : Value} {n : Nat} (e : k.want i = v) (en : k.len i = n) : w.ownsRow 0 E 7 v n (k.xs i) := by
  have := h.1 (.c i)
  simp only [KM.fam, if_pos hi] at this
  rw [e, en] at this
  exact this
theorem KM.outAt {k : KM} {w : World} {SE E : TypeId} (h : (k.own SE E).holds w) {g M c : Nat} (hM : k.M = M) (hv : k.ov = .slice (some ⟨g, 0, none⟩) M c) {i : Nat} (hi : i < M) {u : Value} (e : k.out i = u) : w.cell? ⟨g, i, none⟩ = some u := by
  subst hM
  exact rows_at (KM.outs h) hv hi e
theorem KM.wantAt {k : KM} {w : World} {SE E : TypeId} (h : (k.own SE E).holds w) {g M c : Nat} (hM : k.M = M) (hv : k.wv = .slice (some ⟨g, 0, none⟩) M c) {i : Nat} (hi : i < M) {u : Value} (e : k.want i = u) : w.cell? ⟨g, i, none⟩ = some u := by
  subst hM
  exact rows_at (KM.wants h) hv hi e
theorem fam_wants {k : KM} {w : World} {SE E : TypeId} {F : TM → Own} (h : (Own.fam F).holds w) (hF : F .wants = k.fam SE E .wants) {g M c : Nat} (hM : k.M = M) (hv : k.wv = .slice (some ⟨g, 0, none⟩) M c) {i : Nat} (hi : i < M) {u : Value} (e : k.want i = u) : w.cell? ⟨g, i, none⟩ = some u := by
  subst hM
  have h1 := h.1 .wants
  rw [hF] at h1
  exact rows_at h1 hv hi e
theorem fam_outs {k : KM} {w : World} {SE E : TypeId} {F : TM → Own} (h : (Own.fam F).holds w) (hF : F .outs = k.fam SE E .outs) {g M c : Nat} (hM : k.M = M) (hv : k.ov = .slice (some ⟨g, 0, none⟩) M c) {i : Nat} (hi : i < M) {u : Value} (e : k.out i = u) : w.cell? ⟨g, i, none⟩ = some u := by
  subst hM
  have h1 := h.1 .outs
  rw [hF] at h1
  exact rows_at h1 hv hi e
/-- While one grows. -/
def KM.mid (k : KM) (SE E : TypeId) (i : Nat) (p z : Own) : TM → Own := upd (upd (upd (k.fam SE E) .x p) (.o i) Own.emp) .z z
theorem KM.mid_start (k : KM) (SE E : TypeId) (i : Nat) (p z : Own) : Own.fam (upd (upd (upd (k.fam SE E) .x p) (.o i) Own.emp) .z z) = Own.fam (k.mid SE E i p z) := rfl
theorem KM.mid_x (k : KM) (SE E : TypeId) (i : Nat) (p z p' : Own) : Own.fam (upd (k.mid SE E i p z) .x p') = Own.fam (k.mid SE E i p' z) := Own.fam_as fun j => by
  cases j <;> simp [upd, KM.mid]
theorem KM.mid_z (k : KM) (SE E : TypeId) (i : Nat) (p z z' : Own) : Own.fam (upd (k.mid SE E i p z) .z z') = Own.fam (k.mid SE E i p z') := Own.fam_as fun j => by
  cases j <;> simp [upd, KM.mid]
theorem KM.mid_at_x (k : KM) (SE E : TypeId) (i : Nat) (p z : Own) : k.mid SE E i p z .x = p := by simp [KM.mid, upd]
theorem KM.mid_at_z (k : KM) (SE E : TypeId) (i : Nat) (p z : Own) : k.mid SE E i p z .z = z := by simp [KM.mid, upd]
theorem KM.mid_hx {k : KM} {SE E : TypeId} {i : Nat} {p z : Own} {w : World} (h : (Own.fam (k.mid SE E i p z)).holds w) : p.holds w := by
  have := h.1 .x
  rwa [KM.mid_at_x] at this
theorem KM.mid_hz {k : KM} {SE E : TypeId} {i : Nat} {p z : Own} {w : World} (h : (Own.fam (k.mid SE E i p z)).holds w) : z.holds w := by
  have := h.1 .z
  rwa [KM.mid_at_z] at this
theorem KM.mid_tx {k : KM} {SE E : TypeId} {i : Nat} {p z p' : Own} {w w' : World} (h : (Own.fam (k.mid SE E i p z)).holds w) (t : Turns w w' p p') : Turns w w' (Own.fam (k.mid SE E i p z)) (Own.fam (k.mid SE E i p' z)) :=
  (Turns.famE h .x (KM.mid_at_x ..) t).to (KM.mid_x ..)
theorem KM.mid_tz {k : KM} {SE E : TypeId} {i : Nat} {p z z' : Own} {w w' : World} (h : (Own.fam (k.mid SE E i p z)).holds w) (t : Turns w w' z z') : Turns w w' (Own.fam (k.mid SE E i p z)) (Own.fam (k.mid SE E i p z')) :=
  (Turns.famE h .z (KM.mid_at_z ..) t).to (KM.mid_z ..)
theorem KM.mid_outs (k : KM) (SE E : TypeId) (i : Nat) (p z : Own) : k.mid SE E i p z .outs = Own.row SE 1 k.ov k.M ((List.range k.M).map k.out) := by simp [KM.mid, upd, KM.fam]
theorem KM.mid_wants (k : KM) (SE E : TypeId) (i : Nat) (p z : Own) : k.mid SE E i p z .wants = Own.row SE 1 k.wv k.M ((List.range k.M).map k.want) := by simp [KM.mid, upd, KM.fam]
theorem KM.mid_wants2 (k : KM) (SE E : TypeId) (i : Nat) (p z o : Own) : upd (k.mid SE E i p z) .outs o .wants = Own.row SE 1 k.wv k.M ((List.range k.M).map k.want) := by simp [KM.mid, upd, KM.fam]
/-- The new lists are hung up: the grown family is the kept lists' own. -/
theorem KM.close (k : KM) {w : World} {SE E : TypeId} {i n0 M n : Nat} {v0 ov wv x y : Value} {xs0 zs : List Value} (hi : k.fr i = true) (hM : k.fr k.M = false) (e1 : k.out i = v0) (e2 : k.len i = n0) (e3 : k.xs i = xs0) (e4 : k.M = M)
    (h : (Own.fam (upd (upd (k.mid SE E i (Own.preM E v0 n0 xs0 x n zs) (Own.row E 7 y n zs)) .outs (Own.row SE 1 ov (M + 1) ((List.range M).map k.out ++ [x]))) .wants (Own.row SE 1 wv (M + 1) ((List.range M).map k.want ++ [y])))).holds w) :
    Turns w w (Own.fam (upd (upd (k.mid SE E i (Own.preM E v0 n0 xs0 x n zs) (Own.row E 7 y n zs)) .outs (Own.row SE 1 ov (M + 1) ((List.range M).map k.out ++ [x]))) .wants (Own.row SE 1 wv (M + 1) ((List.range M).map k.want ++ [y])))) ((k.grow i ov wv x y n zs).own SE E) := by
  subst e1 e2 e3 e4
  refine KM.settle k hi hM h ?_ ?_ ?_ (fun j => ?_) (fun j => ?_) ?_ ?_
  · simp [upd, KM.mid, KM.fam]
  · simp [upd, KM.mid, KM.fam]
  · simp [upd, KM.mid, KM.fam]
  · by_cases e : j = i
    · simp [upd, KM.mid, e]
    · simp [upd, KM.mid, e]
  · simp [upd, KM.mid]
  · simp [upd]
  · simp [upd]
theorem KM.Wf.top {a : Nat} (h : k.Wf a a) : k.Wf k.M k.M := ⟨Nat.le_refl _, Nat.le_refl _, fun i => by
  rw [h.fr, decide_eq_decide]
  omega, h.old⟩
end Go.Hp.M7
