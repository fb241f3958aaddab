/- Families of things; a row that grew out of another one; what was handed out and is kept twice. Plain lemmas on worlds. -/
import Derived.Test.YtmpkjfengfgagaaAp
namespace Go.Hp
open Go.RowKit
set_option linter.unusedSimpArgs false
set_option linter.unusedVariables false
variable {ι : Type}
/-- Things that share no block, as one thing. -/
def Own.fam (F : ι → Own) : Own :=
  ⟨fun b => ∃ i, (F i).foot b, fun w => (∀ i, (F i).holds w) ∧ ∀ i j b, (F i).foot b → (F j).foot b → i = j,
    fun h hb => ⟨fun i => (F i).stable (h.1 i) fun b hf => hb b ⟨i, hf⟩, h.2⟩,
    fun h b hb => by obtain ⟨i, hi⟩ := hb; exact (F i).lt (h.1 i) b hi⟩
theorem Own.fam_as {F G : ι → Own} (e : ∀ i, F i = G i) : Own.fam F = Own.fam G := by rw [funext e]
theorem Turns.fam [DecidableEq ι] {F : ι → Own} {w w' : World} (h : (Own.fam F).holds w) (i : ι) {O' : Own} (ht : Turns w w' (F i) O') : Turns w w' (Own.fam F) (Own.fam (upd F i O')) := by
  have key : ∀ j b, j ≠ i → (F j).foot b → O'.foot b → False := fun j b hne hf ho => by
    rcases ht.near b ho with hf' | hge
    · exact hne (h.2 j i b hf hf')
    · have := (F j).lt (h.1 j) b hf
      omega
  refine ⟨ht.chg.mono fun k _ hf => ⟨i, hf⟩, ⟨fun j => ?_, fun j k b hj hk => ?_⟩, fun b hb => ?_⟩
  · unfold upd
    split
    · exact ht.now
    · rename_i hne
      exact Own.chg (h.1 j) ht.chg (fun b hb hi => hne (h.2 j i b hb hi))
  · unfold upd at hj hk
    split at hj <;> split at hk
    · rename_i e1 e2; rw [e1, e2]
    · rename_i e1 e2; exact (key k b e2 hk hj).elim
    · rename_i e1 e2; exact (key j b e1 hj hk).elim
    · exact h.2 j k b hj hk
  · obtain ⟨j, hj⟩ := hb
    unfold upd at hj
    split at hj
    · rcases ht.near b hj with hf | hge
      · exact Or.inl ⟨i, hf⟩
      · exact Or.inr hge
    · exact Or.inl ⟨j, hj⟩
theorem Turns.to {w w' : World} {O O' O'' : Own} (h : Turns w w' O O') (e : O' = O'') : Turns w w' O O'' := e ▸ h
/-- What is read of an owned slice stays while its block stands. -/
theorem Src.stay {w w' : World} {v : Value} {n : Nat} {xs : List Value} (h : Src w v n 1 xs) (hb : ∀ b, v.ownBlock = some b → w'.heap[b]? = w.heap[b]?) : Src w' v n 1 xs := by
  refine ⟨h.1, ?_⟩
  rcases h.2 with hv | ⟨ad, c, hv, hc⟩
  · exact Or.inl hv
  · refine Or.inr ⟨ad, c, hv, fun j u hj => ?_⟩
    have e : (ad.add j).block = ad.block := by unfold Addr.add; split <;> rfl
    rw [World.cell?_of_block (w := w) (by rw [e]; exact hb ad.block (by rw [hv]; rfl))]
    exact hc j u hj
theorem lt_of_heap {w w' : World} {b : Nat} (h1 : b < w.heap.size) (h2 : w'.heap[b]? = w.heap[b]?) : b < w'.heap.size := by
  refine Decidable.byContradiction fun hn => ?_
  rw [Array.getElem?_eq_none (by omega), Array.getElem?_eq_getElem h1] at h2
  exact absurd h2 (by simp)
/-- A slice that was handed out, and the longer row that grew out of it: in its place, or elsewhere. -/
def Own.pre (E : TypeId) (v0 : Value) (n0 : Nat) (xs0 : List Value) (v : Value) (n : Nat) (xs : List Value) : Own :=
  ⟨fun b => v0.ownBlock = some b ∨ v.ownBlock = some b,
    fun w => w.ownsRow 0 E 1 v n xs ∧ Src w v0 n0 1 xs0 ∧ (v0.ownBlock = v.ownBlock → ∃ ys, xs = xs0 ++ ys) ∧ ∀ b, v0.ownBlock = some b → b < w.heap.size ∧ ∃ n c, v0 = .slice (some ⟨b, 0, none⟩) n c,
    fun h hb => ⟨row_heap h.1 fun b hf => hb b (Or.inr hf), Src.stay h.2.1 fun b hf => hb b (Or.inl hf), h.2.2.1, fun b hf => ⟨lt_of_heap (h.2.2.2 b hf).1 (hb b (Or.inl hf)), (h.2.2.2 b hf).2⟩⟩,
    fun h b hb => hb.elim (fun hf => (h.2.2.2 b hf).1) (fun hf => (World.ownsRow.lt h.1 b hf).2)⟩
theorem Own.pre_start {w : World} {E : TypeId} {v : Value} {n : Nat} {xs : List Value} (h : (Own.row E 1 v n xs).holds w) : (Own.pre E v n xs v n xs).holds w := by
  have h : w.ownsRow 0 E 1 v n xs := h
  refine ⟨h, Src.of_own h, fun _ => ⟨[], by simp⟩, fun b hb => ⟨(World.ownsRow.lt h b hb).2, ?_⟩⟩
  rcases h.2 with ⟨rfl, _⟩ | ⟨g, cap, cur, rfl, _⟩
  · cases hb
  · have : g = b := by simpa [Value.ownBlock] using hb
    subst this
    exact ⟨_, _, rfl⟩
theorem Turns.pre_start {w : World} {E : TypeId} {v : Value} {n : Nat} {xs : List Value} (h : (Own.row E 1 v n xs).holds w) : Turns w w (Own.row E 1 v n xs) (Own.pre E v n xs v n xs) :=
  ⟨Chg.refl _ _, Own.pre_start h, fun b hb => hb.elim Or.inl Or.inl⟩
theorem Own.pre_row {w : World} {E : TypeId} {v0 : Value} {n0 : Nat} {xs0 : List Value} {v : Value} {n : Nat} {xs : List Value} (h : (Own.pre E v0 n0 xs0 v n xs).holds w) : w.ownsRow 0 E 1 v n xs := h.1
theorem Own.pre_old {w : World} {E : TypeId} {v0 : Value} {n0 : Nat} {xs0 : List Value} {v : Value} {n : Nat} {xs : List Value} (h : (Own.pre E v0 n0 xs0 v n xs).holds w) : Src w v0 n0 1 xs0 := h.2.1
/-- Old cells stand behind an append, where there was room and where there was none. -/
def Stood (w' : World) (v : Value) (xs : List Value) : Prop := ∀ g, v.ownBlock = some g → ∀ j u, xs[j]? = some u → w'.cell? ⟨g, j, none⟩ = some u
theorem Turns.pre {w w' : World} {E : TypeId} {v0 : Value} {n0 : Nat} {xs0 : List Value} {v : Value} {n : Nat} {xs : List Value} {v' : Value} {n' : Nat} {ys : List Value} (h : (Own.pre E v0 n0 xs0 v n xs).holds w)
    (ht : Turns w w' (Own.row E 1 v n xs) (Own.row E 1 v' n' (xs ++ ys))) (hs : Stood w' v xs) (hat : v'.ownBlock = v.ownBlock ∨ ∃ b, v'.ownBlock = some b ∧ w.heap.size ≤ b) :
    Turns w w' (Own.pre E v0 n0 xs0 v n xs) (Own.pre E v0 n0 xs0 v' n' (xs ++ ys)) := by
  obtain ⟨h1, h2, h3, h4⟩ := h
  refine ⟨ht.chg.mono fun k _ hf => Or.inr hf, ⟨ht.now, ?_, fun he => ?_, fun b hb => ⟨Nat.lt_of_lt_of_le (h4 b hb).1 ht.chg.size, (h4 b hb).2⟩⟩, fun b hb => ?_⟩
  · by_cases hv : v0.ownBlock = v.ownBlock
    · obtain ⟨zs, hz⟩ := h3 hv
      refine ⟨h2.1, ?_⟩
      rcases h2.2 with hn | ⟨ad, c, hv0, hc⟩
      · exact Or.inl hn
      · have hb0 : v0.ownBlock = some ad.block := by rw [hv0]; rfl
        obtain ⟨_, n1, c1, hv1⟩ := h4 ad.block hb0
        have hade : ad = ⟨ad.block, 0, none⟩ := by
          rw [hv0] at hv1
          exact Option.some.inj (Value.slice.inj hv1).1
        refine Or.inr ⟨ad, c, hv0, fun j u hj => ?_⟩
        have e : ad.add j = ⟨ad.block, j, none⟩ := by
          generalize ad.block = bb at hade
          subst hade
          show (⟨bb, 0, none⟩ : Addr).add j = _
          unfold Addr.add
          split <;> simp_all
        rw [e]
        refine hs ad.block (by rw [← hv, hb0]) j u ?_
        rw [hz]
        exact (List.getElem?_append_left (List.getElem?_eq_some_iff.1 hj).1).trans hj
    · refine Src.stay h2 fun b hb => ht.chg.block b (h4 b hb).1 fun hf => hv ?_
      have hf : v.ownBlock = some b := hf
      rw [hb, hf]
  · have hv : v0.ownBlock = v.ownBlock := by
      rcases hat with e | ⟨b, e, hb⟩
      · rw [he, e]
      · have := (h4 _ (he.trans e)).1
        omega
    obtain ⟨zs, hz⟩ := h3 hv
    exact ⟨zs ++ ys, by rw [hz, List.append_assoc]⟩
  · rcases hb with hb | hb
    · exact Or.inl (Or.inl hb)
    · exact (ht.near b hb).elim (fun hf => Or.inl (Or.inr hf)) Or.inr
section
variable {P : Program} (w : World)
theorem run_append_stood (t ty e : TypeId) (i : TypeInfo) (z : Value) (bytes : Nat) (ht : P.underlying t = some (.slice e)) (hi : P.info? e = some i) (hz : i.zero = some z)
    (hsize : i.size = 1) (hby : i.bytes = bytes) (hzs : z.cells.size = 1)
    (v : Value) (n : Nat) (xs : List Value) (hown : w.ownsRow 0 e 1 v n xs)
    (a : Addr) (m c : Nat) (news : List Value) (hl : news.length = m) (hnews : ∀ j u, news[j]? = some u → w.cell? (a.add j) = some u) (h1 : ∀ u ∈ news, u.oneCell' = true)
    (h63 : n + m ≤ maxLen) (hbytes : (n + m) * bytes ≤ 140737488355328) :
    ∃ v' w', (Builtin.append_ #[t, t] ty #[v, .slice (some a) m c]).run P w = .ok v' w' ∧ w'.ownsRow 0 e 1 v' (n + m) (xs ++ news) ∧ w.grownBy w' v.ownBlock ∧
      (v'.ownBlock = v.ownBlock ∨ v'.ownBlock = some w.heap.size) ∧ Stood w' v xs := by
  obtain ⟨v', w', hr, k1, k2, k3, k4⟩ := run_append_own_at (P := P) w 0 t ty e i z 1 bytes ht hi hz hsize hby hzs (by omega) v n xs hown a m c news (by omega) hnews h1 h63 hbytes (Nat.zero_le _)
  refine ⟨v', w', hr, k1, k2, k4, fun g hg j u hj => ?_⟩
  rcases hown.2 with ⟨rfl, rfl⟩ | ⟨g', cap, cur, rfl, hbg, hh, hnc, hcm, hcs, htake⟩
  · cases hg
  · have : g' = g := by simpa [Value.ownBlock] using hg
    subst this
    have ha : ∀ j, (⟨g', 0, none⟩ : Addr).add j = ⟨g', j, none⟩ := fun j => by unfold Addr.add; split <;> simp_all
    have hwj : w.cell? ⟨g', j, none⟩ = some u := by rw [← ha]; exact World.ownsRow.cells (g := g') hown rfl j u hj
    by_cases hroom : n + m ≤ cap
    · obtain ⟨w2, hr2, hk2, _⟩ := run_append_fits (P := P) w 0 t ty e i 1 ht hi hsize g' n cap xs hown a m c news (by omega) hnews h1 hroom
      rw [hr] at hr2
      injection hr2 with _ e2
      subst e2
      rw [← ha]
      exact World.ownsRow.cells (g := g') hk2 rfl j u (by rw [List.getElem?_append_left (List.getElem?_eq_some_iff.1 hj).1]; exact hj)
    · have holds : ∀ j u, xs[j]? = some u → w.cell? ((⟨g', 0, none⟩ : Addr).add j) = some u := World.ownsRow.cells (g := g') hown rfl
      have hxl : xs.length = n := by have := hown.1; omega
      have hr2 := run_append_grow (P := P) w t ty e i z ht hi hz ⟨g', 0, none⟩ n cap xs (by rw [hsize]; omega) holds a m c news (by rw [hsize]; omega) hnews (by omega) (by simp only [maxLen] at h63; omega) (growslice_fits (by omega) (by rw [hby]; exact hbytes))
      rw [hr] at hr2
      injection hr2 with _ e2
      rw [e2]
      exact (World.cell?_of_block (w := w) (Below.heap_alloc w.drew _ _ (show g' < w.drew.heap.size from Blk.lt hh))).trans hwj
/-- One element behind a row; what stood in it stands. -/
theorem wpList_appK {ops : Array Oper} {rest : List Oper} {o : Oper} {a : Act} {Q : Exit → Act → World → Prop} (hgd : o.guard = none) (s x : Operand) (t : TypeId)
    (ho : o.op = .call { callee := .builtin .append, args := #[s, x], argTypes := #[t, t] })
    (e : TypeId) (i : TypeInfo) (z : Value) (bytes : Nat) (ht : P.underlying t = some (.slice e)) (hi : P.info? e = some i) (hz : i.zero = some z)
    (hsize : i.size = 1) (hby : i.bytes = bytes) (hzs : z.cells.size = 1)
    (v : Value) (n : Nat) (xs : List Value) (hs : a.eval s = v) (u0 : Value) (T : TypeId) (b0 : Nat) (hx : a.eval x = .slice (some ⟨b0, 0, none⟩) 1 1) (hb0 : b0 = w.heap.size) (hown : w.ownsRow 0 e 1 v n xs)
    (h1 : u0.oneCell' = true) (h63 : n + 1 ≤ maxLen) (hbytes : (n + 1) * bytes ≤ 140737488355328)
    (h : ∀ g c w', n + 1 ≤ c → Turns w w' (Own.row e 1 v n xs) (Own.row e 1 (.slice (some ⟨g, 0, none⟩) (n + 1) c) (n + 1) (xs ++ [u0])) → Stood w' v xs → (some g = v.ownBlock ∨ w.heap.size ≤ g) →
      wpList P ops Q rest (a.put o.dst (.slice (some ⟨g, 0, none⟩) (n + 1) c)) w') :
    wpList P ops Q (o :: rest) a (w.alloc (.cells #[u0] T)) := by
  subst hb0
  have hT : Turns w (w.alloc (.cells #[u0] T)) (Own.row e 1 v n xs) (Own.row e 1 v n xs) := Turns.alloc (Turns.refl (O := Own.row e 1 v n xs) hown) _
  refine wpList_plain hgd fun K hK => ?_
  obtain ⟨v', w', hr, h2, h3, h4, h5⟩ := run_append_stood (P := P) (w.alloc (.cells #[u0] T)) t o.type e i z bytes ht hi hz hsize hby hzs v n xs hT.now ⟨w.heap.size, 0, none⟩ 1 1 [u0] rfl (cell_one_new w u0 T) (by simpa using h1) h63 hbytes
  unfold Oper.wp execOp
  simp only [ho, resolve, invoke, builtin, Sem.run_bind, Sem.run_pure, Result.andThen_ok, List.map_toArray, List.map_cons, List.map_nil, hs, hx, hr]
  obtain ⟨g, c, rfl, _, hc⟩ := row_form h2 (by omega)
  refine hK _ _ (h g c w' hc (hT.trans (Turns.row h2 h3 h4)) h5 ?_)
  rcases h4 with h4 | h4
  · exact Or.inl h4
  · have : g = (w.alloc (.cells #[u0] T)).heap.size := by simpa [Value.ownBlock] using h4
    right
    rw [this]
    simp
/-- One element behind a row, as a step of a region that draws. -/
theorem step_app1 {ops : Array Oper} {o : Oper} {a : Act} {K : Act → World → Prop} {Q : Exit → Act → World → Prop} {E : Prop} (hgd : o.guard = none) (s x : Operand) (t : TypeId)
    (ho : o.op = .call { callee := .builtin .append, args := #[s, x], argTypes := #[t, t] })
    (e : TypeId) (i : TypeInfo) (z : Value) (bytes : Nat) (ht : P.underlying t = some (.slice e)) (hi : P.info? e = some i) (hz : i.zero = some z)
    (hsize : i.size = 1) (hby : i.bytes = bytes) (hzs : z.cells.size = 1)
    (v : Value) (n : Nat) (xs : List Value) (hs : a.eval s = v) (u0 : Value) (T : TypeId) (b0 : Nat) (hx : a.eval x = .slice (some ⟨b0, 0, none⟩) 1 1) (hb0 : b0 = w.heap.size) (hown : w.ownsRow 0 e 1 v n xs)
    (h1 : u0.oneCell' = true) (h63 : n + 1 ≤ maxLen) (hbytes : (n + 1) * bytes ≤ 140737488355328)
    (h : ∀ g c w', n + 1 ≤ c → Turns w w' (Own.row e 1 v n xs) (Own.row e 1 (.slice (some ⟨g, 0, none⟩) (n + 1) c) (n + 1) (xs ++ [u0])) → K (a.put o.dst (.slice (some ⟨g, 0, none⟩) (n + 1) c)) w') :
    if Region.wanted o (yielded ops a.tmps) = true then Oper.wp P o a (w.alloc (.cells #[u0] T)) K Q else E := by
  subst hb0
  have hw : Region.wanted o (yielded ops a.tmps) = true := by simp [Region.wanted, hgd]
  rw [if_pos hw]
  have hT : Turns w (w.alloc (.cells #[u0] T)) (Own.row e 1 v n xs) (Own.row e 1 v n xs) := Turns.alloc (Turns.refl (O := Own.row e 1 v n xs) hown) _
  obtain ⟨v', w', hr, h2, h3, h4, h5⟩ := run_append_stood (P := P) (w.alloc (.cells #[u0] T)) t o.type e i z bytes ht hi hz hsize hby hzs v n xs hT.now ⟨w.heap.size, 0, none⟩ 1 1 [u0] rfl (cell_one_new w u0 T) (by simpa using h1) h63 hbytes
  obtain ⟨g, c, rfl, _, hc⟩ := row_form h2 (by omega)
  have hk := h g c w' hc (hT.trans (Turns.row h2 h3 h4))
  unfold Oper.wp execOp
  simp only [ho, resolve, invoke, builtin, Sem.run_bind, Sem.run_pure, Result.andThen_ok, List.map_toArray, List.map_cons, List.map_nil, hs, hx, hr]
  exact hk
end
end Go.Hp
