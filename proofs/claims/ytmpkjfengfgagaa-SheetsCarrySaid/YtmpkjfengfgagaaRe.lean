/- Ranges over a function whose iterator hands out things that lie in memory: the round is told what lies behind its element. Plain. -/
import Derived.Test.YtmpkjfengfgagaaSp
import Derived.RangeFuncNested
import Derived.OwnWalkIn
import Derived.Maps.AppendAt
namespace Go.Hp
open Go.RowKit
section
variable {α : Type} {P : Program}
/-- An iterator's contract; El: what is known of an element when it comes, and what was laid for it. -/
def SeqE (P : Program) (g : Nat) (lb : Array Value) (encs : α → Array Value) (El : α → World → World → Prop) (St Kp : World → World → Prop) (S Sp : List α → Prop) (N : Nat) (w : World) : Prop :=
  ∀ (l : Nat) (J Jx : List α → World → Prop) (W : World), Below w.heap.size w W → AbidesFrom W.heap.size J → AbidesFrom W.heap.size Jx →
    (∀ pre x W0 W1, J pre W0 → J pre W1 → El x W0 W1 → pre.length < N → YieldAt Fence.wide 0 P l (encs x) W1 fun e W' => (e = .returned (.bool true) ∧ J (pre ++ [x]) W' ∧ Kp W1 W') ∨ (e = .returned (.bool false) ∧ Jx (pre ++ [x]) W')) →
    (∀ W', St W W' → J [] W') →
    Calls P g (#[.func (.yield l) #[] #[]] ++ lb) W fun e W' => (∃ v, e = .returned v) ∧ ((∃ xs, S xs ∧ J xs W') ∨ (∃ pre, Sp pre ∧ Jx pre W'))
/-- What stands beside the record stands as long as no block that is neither cells nor a walk turns but the record. -/
def Beside (B l : Nat) (Bk : World → Prop) : Prop := ∀ X Y : World, (∀ (k : Nat) (o : Obj), B ≤ k → k ≠ l → X.heap[k]? = some o → o.isCells = false → o.isWalk = false → Y.heap[k]? = some o) → Bk X → Bk Y
theorem Beside.put {B l : Nat} {Bk : World → Prop} (h : Beside B l Bk) {W : World} (o : Obj) (hb : Bk W) : Bk (W.putObj l o) :=
  h W _ (fun _ _ _ hk h1 _ _ => (World.putObj_heap_other hk).trans h1) hb
theorem Beside.grown {B l : Nat} {Bk : World → Prop} (h : Beside B l Bk) {W W' : World} {row : Option Nat} (hg : W.grownBy W' row) (hr : ∀ r, row = some r → ∃ o : Obj, W.heap[r]? = some o ∧ o.isWalk = true) (hb : Bk W) : Bk W' :=
  h W _ (fun _ _ _ _ h1 _ h3 => (grownBy_keeps hg hr h1 h3).trans h1) hb
theorem Beside.keeps {B l : Nat} {Bk : World → Prop} (h : Beside B l Bk) {W W' : World} (hk : KeepsFrom B W W') (hb : Bk W) : Bk W' :=
  h W _ (fun k o hB _ h1 h2 _ => hk.same k o hB h1 h2) hb
abbrev recE (fn : FuncId) (tmps : Array Value) (ps : Array Tmp) (assign body : Code) (D : Nat) (st : LoopState) (pe : Option Code) : Loop := { state := st, pending := pe, fn, tmps, params := ps, assign, body, defers := D }
variable {gf : Nat} {lb : Array Value} {encs : α → Array Value} {El : α → World → World → Prop} {St Kp : World → World → Prop} {S Sp : List α → Prop} {N : Nat} {w0 : World}
/-- The iterator's whole run, from the record on. -/
theorem SeqE.run (hseq : SeqE P gf lb encs El St Kp S Sp N w0) {fn : FuncId} {tmps : Array Value} {ps : Array Tmp} {assign body : Code} {D B l m : Nat} (hBl : B ≤ l) {Bk : World → Prop} (hBk : Beside B l Bk)
    (hKt : ∀ {A B C : World}, Kp A B → Kp B C → Kp A C) (hKb : ∀ (W : World) (l : Nat) (o o' : Obj), B ≤ l → W.heap[l]? = some o → o.isCells = false → o.isWalk = false → Kp W (W.putObj l o')) (hps : ∀ x, (encs x).size = ps.size)
    (I : List α → World → Prop) (Ix : Code → List α → World → Prop) (hI : OwnFrom B I) (hIx : ∀ c, OwnFrom B (Ix c)) (Ax : List α → α → Act → World → Prop) (hAx : ∀ pre x a', OwnFrom B (fun (_ : Unit) W => Ax pre x a' W))
    (hassign : ∀ (pre : List α) (x : α) (W0 W : World) (K : Act → World → Prop), I pre W0 → I pre W → El x W0 W → (∀ a' W', KeepsFrom B W W' → Kp W W' → I pre W' → Ax pre x a' W' → K a' W') →
      assign.wpIn (Fence.wide.inRound l) m P (Exit.then K (fun _ _ _ => False)) { tmps := (ps.zip (encs x)).foldl (fun t (p, v) => t.setIfInBounds p v) tmps, defers := [] } W)
    (hbody : ∀ (pre : List α) (x : α) (a' : Act) (W : World), (∃ r, W.heap[l]? = some (.loop r)) → I pre W → Ax pre x a' W → pre.length < N → body.wpIn (Fence.wide.inRound l) m P (ownPostG B Kp I Ix (pre ++ [x]) W) a' W)
    (W1 : World) (hBW : B ≤ W1.heap.size) (hL : W1.heap[l]? = some (.loop (recE fn tmps ps assign body D .ready none))) (hB1 : Bk W1) (hSt : ∀ W', St W1 W' → KeepsFrom B W1 W') (hI1 : ∀ W', St W1 W' → I [] W') (hb1 : Below w0.heap.size w0 W1) :
    Calls P gf (#[.func (.yield l) #[] #[]] ++ lb) W1 fun e W2 => (∃ v, e = .returned v) ∧ ((∃ xs, S xs ∧ I xs W2 ∧ W2.heap[l]? = some (.loop (recE fn tmps ps assign body D .ready none)) ∧ Bk W2) ∨
      (∃ pre, Sp pre ∧ ∃ c, Ix c pre W2 ∧ W2.heap[l]? = some (.loop (recE fn tmps ps assign body D .done (some c))) ∧ Bk W2)) := by
  have far : ∀ {X Y : World} {row : Option Nat}, (∀ r, row = some r → W1.heap.size ≤ r ∧ ∃ o : Obj, X.heap[r]? = some o ∧ o.isWalk = true) → (∀ r, row = some r → B ≤ r ∧ ∃ o : Obj, X.heap[r]? = some o ∧ o.isCells = false) :=
    fun hr r e => by obtain ⟨h1, o, h2, h3⟩ := hr r e; exact ⟨Nat.le_trans hBW h1, o, h2, Obj.not_cells_of_walk h3⟩
  refine hseq l (fun pre W => I pre W ∧ W.heap[l]? = some (.loop (recE fn tmps ps assign body D .ready none)) ∧ Bk W)
    (fun pre W => ∃ c, Ix c pre W ∧ W.heap[l]? = some (.loop (recE fn tmps ps assign body D .done (some c))) ∧ Bk W) W1 hb1
    (fun s X Y row hs hg hr => ⟨hI s X Y row hs.1 hg (far (Y := Y) hr), (grownBy_keeps hg (fun r e => (hr r e).2) hs.2.1 rfl).trans hs.2.1, hBk.grown hg (fun r e => (hr r e).2) hs.2.2⟩)
    (fun s X Y row hs hg hr => by
      obtain ⟨c, h1, h2, h3⟩ := hs
      exact ⟨c, hIx c s X Y row h1 hg (far (Y := Y) hr), (grownBy_keeps hg (fun r e => (hr r e).2) h2 rfl).trans h2, hBk.grown hg (fun r e => (hr r e).2) h3⟩)
    ?_ (fun W' hst => ⟨hI1 W' hst, (hSt W' hst).same _ _ hBl hL rfl, hBk.keeps (hSt W' hst) hB1⟩)
  rintro pre x W0 W ⟨hi0, _, _⟩ ⟨hi, hl, hk⟩ hel hlen
  refine ⟨fn, _, assign, body, run_yield hl (hps x), ?_⟩
  have hround := roundIn_of_wpIn (F := Fence.wide) (n := m) (P := P) (l := l) (f := fn) (tmps := (ps.zip (encs x)).foldl (fun t (p, v) => t.setIfInBounds p v) tmps) (w := W)
    (R := fun e W' => (e = .returned (.bool true) ∧ (I (pre ++ [x]) W' ∧ W'.heap[l]? = some (.loop (recE fn tmps ps assign body D .ready none)) ∧ Bk W') ∧ Kp W W') ∨ (e = .returned (.bool false) ∧ ∃ c, Ix c (pre ++ [x]) W' ∧ W'.heap[l]? = some (.loop (recE fn tmps ps assign body D .done (some c))) ∧ Bk W')) trivial
    (hassign pre x W0 W _ hi0 hi hel (fun a' Wa hka hpa hia hax => by
      have hla := hka.same _ _ hBl hl rfl
      have hlt := (Array.getElem?_eq_some_iff.1 hla).1
      have hba := hBk.keeps hka hk
      refine ⟨_, run_beginRound hla rfl, ?_⟩
      have hl2 : (Wa.putObj l (.loop { recE fn tmps ps assign body D .ready none with state := .busy })).heap[l]? = some (.loop { recE fn tmps ps assign body D .ready none with state := .busy }) := World.putObj_heap_same hlt
      have hb2 := hBk.put (.loop { recE fn tmps ps assign body D .ready none with state := .busy }) hba
      have hp2 : Kp Wa _ := hKb _ _ _ (.loop { recE fn tmps ps assign body D .ready none with state := .busy }) hBl hla rfl rfl
      have fin : ∀ (jump : Option Code) (W3 : World), KeepsFrom B (Wa.putObj l (.loop { recE fn tmps ps assign body D .ready none with state := .busy })) W3 →
          ∃ W4 r4, (Instr.endRound l jump).run P W3 = .ok (.bool jump.isNone) W4 ∧ W4 = W3.putObj l r4 ∧ W3.heap[l]? = some (.loop { recE fn tmps ps assign body D .ready none with state := .busy }) ∧
            W4.heap[l]? = some (.loop (recE fn tmps ps assign body D (if jump.isNone then .ready else .done) jump)) ∧ Bk W4 := fun jump W3 hk3 => by
        have hl3 := hk3.same _ _ hBl hl2 rfl
        exact ⟨_, _, run_endRound jump hl3, rfl, hl3, World.putObj_heap_same (Array.getElem?_eq_some_iff.1 hl3).1, hBk.put _ (hBk.keeps hk3 hb2)⟩
      refine wpIn_mono (hbody pre x a' _ ⟨_, hl2⟩ (hI.putObj _ hia hBl hla rfl) ((hAx pre x a').putObj (s := ()) _ hax hBl hla rfl) hlen) ?_
      have bad : ∀ (c : Code) (W3 : World), KeepsFrom B (Wa.putObj l (.loop { recE fn tmps ps assign body D .ready none with state := .busy })) W3 → Ix c (pre ++ [x]) W3 →
          ∃ v w', (Instr.endRound l (some c)).run P W3 = .ok v w' ∧ ((Ending.returned v = .returned (.bool true) ∧ (I (pre ++ [x]) w' ∧ w'.heap[l]? = some (.loop (recE fn tmps ps assign body D .ready none)) ∧ Bk w') ∧ Kp W w') ∨ (Ending.returned v = .returned (.bool false) ∧ ∃ c, Ix c (pre ++ [x]) w' ∧ w'.heap[l]? = some (.loop (recE fn tmps ps assign body D .done (some c))) ∧ Bk w')) := fun c W3 hk3 hi3 => by
        obtain ⟨W4, r4, hr, e4, hl3, hl4, hb4⟩ := fin (some c) W3 hk3
        refine ⟨_, _, hr, .inr ⟨rfl, c, ?_, hl4, hb4⟩⟩
        rw [e4]
        exact (hIx c).putObj _ hi3 hBl hl3 rfl
      rintro e a3 W3 hp
      cases e with
      | normal =>
        obtain ⟨hk3, hp3, hi3⟩ := hp
        obtain ⟨W4, r4, hr, e4, hl3, hl4, hb4⟩ := fin none W3 hk3
        refine ⟨_, _, hr, .inl ⟨rfl, ⟨?_, hl4, hb4⟩, ?_⟩⟩
        · rw [e4]; exact hI.putObj _ hi3 hBl hl3 rfl
        · rw [e4]; exact hKt hpa (hKt (hKt hp2 hp3) (hKb _ _ _ _ hBl hl3 rfl rfl))
      | ret => exact bad .ret W3 hp.1 hp.2
      | exit id => exact bad (.exit id) W3 hp.1 hp.2
      | goto t => exact bad (.goto t) W3 hp.1 hp.2
      | panic ch => exact hp.elim
      | outgrown => exact hp.elim))
  exact ⟨trivial, fun c cs _ => hround.2 c cs (room_wide _)⟩
/-- The statement, outermost. -/
theorem wpIn_rangeE {g : Operand} {ps : Array Tmp} {assign body : Code} {Q : Exit → Act → World → Prop} {a : Act} {w : World} {n m : Nat} (hg : a.eval g = .func (.func gf) #[] lb) (eg : ∀ args w, (callFunc gf args).run P w = .ok (.enter gf args) w)
    (hseq : SeqE P gf lb encs El St Kp S Sp N w0)
    (hKt : ∀ {A B C : World}, Kp A B → Kp B C → Kp A C) (hKb : ∀ (W : World) (l : Nat) (o o' : Obj), w.heap.size ≤ l → W.heap[l]? = some o → o.isCells = false → o.isWalk = false → Kp W (W.putObj l o')) (hb0 : Below w0.heap.size w0 w) (hps : ∀ x, (encs x).size = ps.size)
    (I : List α → World → Prop) (Ix : Code → List α → World → Prop) (hI : OwnFrom w.heap.size I) (hIx : ∀ c, OwnFrom w.heap.size (Ix c)) (hSt : ∀ W1 W', w.grownBy W1 none → St W1 W' → KeepsFrom w.heap.size W1 W') (h0 : ∀ W1 W', w.grownBy W1 none → St W1 W' → I [] W') (Ax : List α → α → Act → World → Prop) (hAx : ∀ pre x a', OwnFrom w.heap.size (fun (_ : Unit) W => Ax pre x a' W))
    (hassign : ∀ (l : Nat) (pre : List α) (x : α) (W0 W : World) (K : Act → World → Prop), I pre W0 → I pre W → El x W0 W → (∀ a' W', KeepsFrom w.heap.size W W' → Kp W W' → I pre W' → Ax pre x a' W' → K a' W') →
      assign.wpIn (Fence.wide.inRound l) m P (Exit.then K (fun _ _ _ => False)) { tmps := (ps.zip (encs x)).foldl (fun t (p, v) => t.setIfInBounds p v) a.tmps, defers := [] } W)
    (hbody : ∀ (l : Nat) (pre : List α) (x : α) (a' : Act) (W : World), w.heap.size ≤ l → (∃ r, W.heap[l]? = some (.loop r)) → I pre W → Ax pre x a' W → pre.length < N → body.wpIn (Fence.wide.inRound l) m P (ownPostG w.heap.size Kp I Ix (pre ++ [x]) W) a' W)
    (hdone : ∀ (D : Nat) (xs : List α) (W : World), w.heap.size ≤ D → S xs → I xs W → W.heap[D]? = some (.deferred (some [])) → Q .normal { a with defers := { target := .collected D, args := #[] } :: a.defers } W)
    (hstop : ∀ (D : Nat) (c : Code) (pre : List α) (W : World), w.heap.size ≤ D → Sp pre → Ix c pre W → W.heap[D]? = some (.deferred (some [])) → c.wpIn Fence.wide n P Q { a with defers := { target := .collected D, args := #[] } :: a.defers } W) :
    (Code.rangeFunc g ps assign body).wpIn Fence.wide n P Q a w := by
  refine wpIn_rangeFunc fun fn hfn => ?_
  have hs1 : ((w.alloc (.deferred (some []))).alloc (.loop (recE fn a.tmps ps assign body w.heap.size .ready none))).heap.size = w.heap.size + 2 := by simp
  obtain ⟨W1, hW1⟩ : ∃ W1, W1 = (w.alloc (.deferred (some []))).alloc (.loop (recE fn a.tmps ps assign body w.heap.size .ready none)) := ⟨_, rfl⟩
  refine ⟨w.heap.size + 1, [{ target := .collected w.heap.size, args := #[] }], W1, { target := .fn (.func gf) lb, args := #[.func (.yield (w.heap.size + 1)) #[] #[]] }, W1, gf,
    #[.func (.yield (w.heap.size + 1)) #[] #[]] ++ lb, W1, ?_, ?_, fun _ _ => trivial, ?_, fun h => by simp [Fence.wide] at h, ?_⟩
  · rw [hW1]; exact run_enterLoop_outer fn a.tmps ps assign body
  · simp only [resolve, hg]
    simp [go_sem]
  · simp [invoke, go_sem, eg]
  subst hW1
  have hgr : w.grownBy ((w.alloc (.deferred (some []))).alloc (.loop (recE fn a.tmps ps assign body w.heap.size .ready none))) none := (World.grownBy_alloc w _ none).trans (World.grownBy_alloc _ _ none)
  refine callsIn_wide.2 ((hseq.run (B := w.heap.size) (l := w.heap.size + 1) (m := m) (fn := fn) (tmps := a.tmps) (ps := ps) (assign := assign) (body := body) (D := w.heap.size) (by omega) (Bk := fun W => W.heap[w.heap.size]? = some (.deferred (some []))) (fun X Y h hb => h _ _ (Nat.le_refl _) (by omega) hb rfl rfl)
    hKt hKb hps I Ix hI hIx Ax hAx (hassign _) (fun pre x a' W h1 h2 h3 h4 => hbody _ pre x a' W (by omega) h1 h2 h3 h4) _ (by rw [hs1]; omega) ?_ ?_ (fun W' h => hSt _ W' hgr h) (fun W' h => h0 _ W' hgr h) (hb0.trans ((((Below.refl _ w).alloc (Nat.le_refl _) _).alloc (by simp) _).mono hb0.size))).mono ?_)
  · have := World.alloc_heap_new (w.alloc (.deferred (some []))) (.loop (recE fn a.tmps ps assign body w.heap.size .ready none)); rwa [World.size_alloc] at this
  · exact (Below.heap_alloc _ _ _ (by simp)).trans (World.alloc_heap_new w _)
  · rintro e W2 ⟨⟨v, rfl⟩, (⟨xs, hS, hi, hl, hk⟩ | ⟨pre, hSp, c, hi, hl, hk⟩)⟩
    · exact ⟨none, _, run_endLoop hl (by simp), hdone _ xs _ (Nat.le_refl _) hS (hI.putObj _ hi (by omega) hl rfl) ((World.putObj_heap_other (by omega)).trans hk)⟩
    · exact ⟨some c, _, run_endLoop hl (by simp), hstop _ c pre _ (Nat.le_refl _) hSp ((hIx c).putObj _ hi (by omega) hl rfl) ((World.putObj_heap_other (by omega)).trans hk)⟩
/-- The statement, in a round. -/
theorem wpIn_rangeEN {g : Operand} {ps : Array Tmp} {assign body : Code} {Q : Exit → Act → World → Prop} {a : Act} {w : World} {n m : Nat} {l₀ : Nat} {r₀ : Loop} (hl₀ : w.heap[l₀]? = some (.loop r₀)) (hg : a.eval g = .func (.func gf) #[] lb) (eg : ∀ args w, (callFunc gf args).run P w = .ok (.enter gf args) w)
    (hseq : SeqE P gf lb encs El St Kp S Sp N w0)
    (hKt : ∀ {A B C : World}, Kp A B → Kp B C → Kp A C) (hKb : ∀ (W : World) (l : Nat) (o o' : Obj), w.heap.size ≤ l → W.heap[l]? = some o → o.isCells = false → o.isWalk = false → Kp W (W.putObj l o')) (hb0 : Below w0.heap.size w0 w) (hps : ∀ x, (encs x).size = ps.size)
    (I : List α → World → Prop) (Ix : Code → List α → World → Prop) (hI : OwnFrom w.heap.size I) (hIx : ∀ c, OwnFrom w.heap.size (Ix c)) (hSt : ∀ W1 W', w.grownBy W1 none → St W1 W' → KeepsFrom w.heap.size W1 W') (h0 : ∀ W1 W', w.grownBy W1 none → St W1 W' → I [] W') (Ax : List α → α → Act → World → Prop) (hAx : ∀ pre x a', OwnFrom w.heap.size (fun (_ : Unit) W => Ax pre x a' W))
    (hassign : ∀ (l : Nat) (pre : List α) (x : α) (W0 W : World) (K : Act → World → Prop), I pre W0 → I pre W → El x W0 W → (∀ a' W', KeepsFrom w.heap.size W W' → Kp W W' → I pre W' → Ax pre x a' W' → K a' W') →
      assign.wpIn (Fence.wide.inRound l) m P (Exit.then K (fun _ _ _ => False)) { tmps := (ps.zip (encs x)).foldl (fun t (p, v) => t.setIfInBounds p v) a.tmps, defers := [] } W)
    (hbody : ∀ (l : Nat) (pre : List α) (x : α) (a' : Act) (W : World), w.heap.size ≤ l → (∃ r, W.heap[l]? = some (.loop r)) → I pre W → Ax pre x a' W → pre.length < N → body.wpIn (Fence.wide.inRound l) m P (ownPostG w.heap.size Kp I Ix (pre ++ [x]) W) a' W)
    (hdone : ∀ (xs : List α) (W : World), S xs → I xs W → Q .normal a W)
    (hstop : ∀ (c : Code) (pre : List α) (W : World), Sp pre → Ix c pre W → c.wpIn (Fence.wide.inRound l₀) n P Q a W) :
    (Code.rangeFunc g ps assign body).wpIn (Fence.wide.inRound l₀) n P Q a w := by
  refine wpIn_rangeFunc fun fn hfn => ?_
  obtain ⟨W1, hW1⟩ : ∃ W1, W1 = w.alloc (.loop (recE fn a.tmps ps assign body r₀.defers .ready none)) := ⟨_, rfl⟩
  have hs1 : W1.heap.size = w.heap.size + 1 := by rw [hW1]; simp
  refine ⟨w.heap.size, [], W1, { target := .fn (.func gf) lb, args := #[.func (.yield w.heap.size) #[] #[]] }, W1, gf,
    #[.func (.yield w.heap.size) #[] #[]] ++ lb, W1, ?_, ?_, fun _ _ => trivial, ?_, fun h => by simp [Fence.wide, Fence.inRound] at h, ?_⟩
  · rw [hW1]; exact run_enterLoop_inner hl₀ fn a.tmps ps assign body
  · simp only [resolve, hg]
    simp [go_sem]
  · simp [invoke, go_sem, eg]
  have hgr : w.grownBy W1 none := by rw [hW1]; exact World.grownBy_alloc w _ none
  refine CallsIn.inRound l₀ (callsIn_wide.2 ((hseq.run (B := w.heap.size) (l := w.heap.size) (m := m) (fn := fn) (tmps := a.tmps) (ps := ps) (assign := assign) (body := body) (D := r₀.defers) (Nat.le_refl _) (Bk := fun _ => True) (fun X Y h hb => trivial)
    hKt hKb hps I Ix hI hIx Ax hAx (hassign _) (fun pre x a' W h1 h2 h3 h4 => hbody _ pre x a' W (Nat.le_refl _) h1 h2 h3 h4) W1 (by omega) ?_ trivial (fun W' h => hSt _ W' hgr h) (fun W' h => h0 _ W' hgr h) ?_).mono ?_))
  · rw [hW1]; exact World.alloc_heap_new w _
  · rw [hW1]; exact hb0.trans (((Below.refl _ w).alloc (Nat.le_refl _) _).mono hb0.size)
  · rintro e W2 ⟨⟨v, rfl⟩, (⟨xs, hS, hi, hl, hk⟩ | ⟨pre, hSp, c, hi, hl, hk⟩)⟩
    · exact ⟨none, _, run_endLoop hl (by simp), hdone xs _ hS (hI.putObj _ hi (Nat.le_refl _) hl rfl)⟩
    · exact ⟨some c, _, run_endLoop hl (by simp), hstop c pre _ hSp ((hIx c).putObj _ hi (Nat.le_refl _) hl rfl)⟩
end
/-- One element of several cells behind a row, inside a fence. -/
theorem wpListIn_app1M {P : Program} {F : Fence} {nF : Nat} {w : World} {ops : Array Oper} {rest : List Oper} {o : Oper} {a : Act} {Q : Exit → Act → World → Prop} (hgd : o.guard = none) (s x : Operand) (t : TypeId)
    (ho : o.op = .call { callee := .builtin .append, args := #[s, x], argTypes := #[t, t] })
    (e : TypeId) (i : TypeInfo) (z : Value) (size bytes : Nat) (ht : P.underlying t = some (.slice e)) (hi : P.info? e = some i) (hz : i.zero = some z)
    (hsize : i.size = size) (hby : i.bytes = bytes) (hzs : z.cells.size = size) (hsz : 0 < size)
    (v : Value) (n : Nat) (xs : List Value) (hs : a.eval s = v) (cs : Array Value) (T : TypeId) (b0 : Nat) (hx : a.eval x = .slice (some ⟨b0, 0, none⟩) 1 1) (hb0 : b0 = w.heap.size) (hown : w.ownsRow 0 e size v n xs)
    (hcs : cs.size = size) (h1 : ∀ u ∈ cs.toList, u.oneCell' = true) (h63 : n + 1 ≤ maxLen) (hbytes : (n + 1) * bytes ≤ 140737488355328)
    (h : ∀ g c w', n + 1 ≤ c → Turns w w' (Hp.Own.row e size v n xs) (Hp.Own.row e size (.slice (some ⟨g, 0, none⟩) (n + 1) c) (n + 1) (xs ++ cs.toList)) → wpListIn F nF P ops Q rest (a.put o.dst (.slice (some ⟨g, 0, none⟩) (n + 1) c)) w') :
    wpListIn F nF P ops Q (o :: rest) a (w.alloc (.cells cs T)) := by
  subst hb0
  have hT : Turns w (w.alloc (.cells cs T)) (Hp.Own.row e size v n xs) (Hp.Own.row e size v n xs) := Turns.alloc (Turns.refl (O := Hp.Own.row e size v n xs) hown) _
  obtain ⟨v', w', hr, h2, h3, _, h5⟩ := run_append_own_at (P := P) (w.alloc (.cells cs T)) 0 t o.type e i z size bytes ht hi hz hsize hby hzs hsz v n xs hT.now ⟨w.heap.size, 0, none⟩ 1 1 cs.toList (by simp [hcs]) (by
    intro j u hj
    have ha : (⟨w.heap.size, 0, none⟩ : Addr).add j = ⟨w.heap.size, j, none⟩ := by unfold Addr.add; split <;> simp_all
    rw [ha, (Blk.new w cs T).cell]
    simpa using hj) h1 h63 hbytes (Nat.zero_le _)
  obtain ⟨g, c, rfl, _, hc⟩ := row_form h2 (by omega)
  have hk := h g c w' hc (hT.trans (Turns.row h2 h3 h5))
  refine wpListIn_plain hgd fun K hK => ?_
  unfold Oper.wpIn
  refine ⟨by simp [Oper.about, ho, resolve, Target.leads, Sem.run_pure], ?_⟩
  rw [Oper.semAt_plain F _ _ (by rw [ho]; intro c hc'; cases hc')]
  simp only [execOp, ho, resolve, invoke, builtin, Sem.run_bind, Sem.run_pure, Result.andThen_ok, List.map_toArray, List.map_cons, List.map_nil, hs, hx, hr]
  exact hK _ _ hk
end Go.Hp
