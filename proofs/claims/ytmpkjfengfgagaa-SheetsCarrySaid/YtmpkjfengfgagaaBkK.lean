/- Package sheets: what an iterator gives, gathered. -/
import Derived.Test.YtmpkjfengfgagaaBkJ
namespace Go.Proofs.Ytmpkjfengfgagaa.Bk
open Go.Shelf
open Go.RowKit Go.Hp
attribute [local go_sem] min2_lean min_two max2_lean max_two
set_option linter.unusedSimpArgs false
set_option linter.unusedVariables false
set_option maxRecDepth 100000
theorem und_seq : ∃ a b c, Try.prog.underlying 28 = some (.func a b c) := ⟨_, _, _, rfl⟩
theorem run_seq_eq (f : Fn) (a c : Array Value) (W : World) : Sem.run Try.prog (binOp BinOp.eql 28 (.func f a c) .nilFunc) W = .ok (.bool false) W := by
  obtain ⟨x, y, z, hu⟩ := und_seq
  have h : ∀ d, Sem.run Try.prog (Op.equalIn (d + 1) 28 (.func f a c) .nilFunc) W = .ok false W := by
    intro d
    rw [Op.equalIn]
    simp only [Sem.run_bind, run_underlying hu, Result.andThen_ok]
    rfl
  simp only [binOp]
  go_simp
  unfold Op.equal
  rw [show Op.maxDepth = (Op.maxDepth - 1) + 1 from rfl, h]
  rfl
attribute [local go_sem] Oper.semAt_some run_seq_eq
/-- A sheet's cells. -/
def shC (at_ : Nat → Int) (x : Nat × Value) : Array Value := #[.int .i64 x.1, .int .i64 (at_ x.1), x.2]
def flS (at_ : Nat → Int) (xs : List (Nat × Value)) : List Value := xs.flatMap fun x => (shC at_ x).toList
theorem flS_append (at_ : Nat → Int) (xs ys : List (Nat × Value)) : flS at_ (xs ++ ys) = flS at_ xs ++ flS at_ ys := by simp [flS]
/-- The bytes of what is given. -/
def dtF (db : Nat → List UInt8) (xs : List (Nat × Value)) (i : Nat) : Hp.Own :=
  match xs[i]? with
  | some x => Hp.Own.row 5 1 x.2 (db x.1).length ((db x.1).map bv)
  | none => Hp.Own.emp
theorem dtF_next (db : Nat → List UInt8) (xs : List (Nat × Value)) (x : Nat × Value) : upd (dtF db xs) xs.length (Hp.Own.row 5 1 x.2 (db x.1).length ((db x.1).map bv)) = dtF db (xs ++ [x]) := by
  funext i
  unfold upd dtF
  by_cases e : i = xs.length
  · subst e; simp
  · rw [if_neg e]
    by_cases h : i < xs.length
    · rw [List.getElem?_append_left h]
    · rw [List.getElem?_eq_none (by omega), List.getElem?_eq_none (by simp; omega)]
theorem typed_dtF (db : Nat → List UInt8) (xs : List (Nat × Value)) : Typed (Hp.Own.fam (dtF db xs)) := typed_fam fun i => by
  unfold dtF
  split
  · exact typed_row _ _ _ _ _ (by decide) (by decide)
  · exact typed_emp
theorem dtF_nil (db : Nat → List UInt8) : dtF db [] = fun _ => Hp.Own.emp := by funext i; simp [dtF]
theorem row_slice {w : World} {B : Nat} {E : TypeId} {s n : Nat} {v : Value} {xs : List Value} (h : w.ownsRow B E s v n xs) : ∃ A c, v = .slice A n c := by
  rcases h.2 with ⟨hv, h0⟩ | ⟨g, cap, cur, hv, _⟩
  · subst h0; exact ⟨none, 0, hv⟩
  · exact ⟨_, _, hv⟩
/-- While it is gathered: the list, the bytes, the box of the list, the rest. -/
abbrev oG (A : Ab) (bo : Nat) (V : Value) (xs : List (Nat × Value)) (X : Hp.Own) : Hp.Own :=
  Hp.Own.both (Hp.Own.row 46 3 V xs.length (flS A.at_ xs)) (Hp.Own.both (Hp.Own.fam (dtF A.db xs)) (Hp.Own.both (Hp.Own.blk bo #[V] 33) X))
theorem typed_oG {A : Ab} {bo : Nat} {V : Value} {xs : List (Nat × Value)} {X : Hp.Own} (h : Typed X) : Typed (oG A bo V xs X) := typed_both (typed_row _ _ _ _ _ (by decide) (by decide)) (typed_both (typed_dtF _ _) (typed_both (typed_blk _ _ _ (by decide) (by decide)) h))
theorem _root_.Go.Hp.Turns.at6 {w W W' : World} {O A B C D E F X X' : Hp.Own} (h : Turns w W O (Hp.Own.both A (Hp.Own.both B (Hp.Own.both C (Hp.Own.both D (Hp.Own.both E (Hp.Own.both F X))))))) (t : Turns W W' X X') : Turns w W' O (Hp.Own.both A (Hp.Own.both B (Hp.Own.both C (Hp.Own.both D (Hp.Own.both E (Hp.Own.both F X')))))) :=
  h.at3 ((Turns.refl h.n111).at3 t)
theorem _root_.Go.Hp.Turns.assoc {w W : World} {O A B X : Hp.Own} (h : Turns w W O (Hp.Own.both A (Hp.Own.both B X))) : Turns w W O (Hp.Own.both (Hp.Own.both A B) X) :=
  ⟨h.chg, ⟨⟨h.now.1, h.now.2.1.1, fun b h1 h2 => h.now.2.2 b h1 (Or.inl h2)⟩, h.now.2.1.2.1, fun b h1 h2 => h1.elim (fun h1 => h.now.2.2 b h1 (Or.inr h2)) (fun h1 => h.now.2.1.2.2 b h1 h2)⟩,
    fun b hb => h.near b (hb.elim (fun h1 => h1.elim Or.inl (fun h1 => Or.inr (Or.inl h1))) (fun h1 => Or.inr (Or.inr h1)))⟩
/-- What came is laid to the rest. -/
theorem oG_lay {A : Ab} {bo : Nat} {V : Value} {xs : List (Nat × Value)} {x : Nat × Value} {X Bx : Hp.Own} {w W : World} {O : Hp.Own} (h : Turns w W O (Hp.Own.both Bx (Hp.Own.both (Hp.Own.row 5 1 x.2 (A.db x.1).length ((A.db x.1).map bv)) (Hp.Own.both (Hp.Own.row 46 3 V (xs.length + 1) (flS A.at_ (xs ++ [x]))) (Hp.Own.both (Hp.Own.fam (dtF A.db xs)) (Hp.Own.both (Hp.Own.blk bo #[V] 33) X)))))) :
    Turns w W O (oG A bo V (xs ++ [x]) X) := by
  have t1 := h.dropL.flip
  have t2 := t1.at1 ((Turns.refl t1.n1).assoc)
  have t3 := t2.at10 (fam_lay xs.length (Turns.refl t2.n10))
  rw [dtF_next] at t3
  refine t3.to ?_
  unfold oG
  rw [List.length_append, List.length_singleton]
/-- How much is gathered. -/
def gvL (limit : Int) (l : List Nat) : List Nat := if limit < 0 then l else l.take limit.toNat
theorem prefix_take {l m : List Nat} (h : l <+: m) : l = m.take l.length := List.prefix_iff_eq_take.1 h
theorem Try.info46 : (Try.prog.info? 46).map (fun i => (i.zero, i.size, i.bytes)) = some (some (.agg #[.int .i64 0, .int .i64 0, .slice none 0 0]), 3, 40) := by kernel_rfl
section
variable {P : Pool} {b : Bk} {A : Ab} {w : World}
/-- The boxes and the book. -/
abbrev gX (ax bx bl : Nat) (g : Nat) (a limit : Int) (X : Hp.Own) : Hp.Own := Hp.Own.both (Hp.Own.blk ax #[.int .i64 a] 3) (Hp.Own.both (Hp.Own.blk bx #[.pointer (some ⟨g, 0, none⟩)] 23) (Hp.Own.both (Hp.Own.blk bl #[.int .i64 limit] 3) X))
theorem typed_gX {ax bx bl g : Nat} {a limit : Int} {X : Hp.Own} (h : Typed X) : Typed (gX ax bx bl g a limit X) := typed_both (typed_blk _ _ _ (by decide) (by decide)) (typed_both (typed_blk _ _ _ (by decide) (by decide)) (typed_both (typed_blk _ _ _ (by decide) (by decide)) h))
theorem gX_drop {ax bx bl g bo : Nat} {a limit : Int} {X F R : Hp.Own} {V : Value} {w W : World} {O : Hp.Own} (h : Turns w W O (Hp.Own.both R (Hp.Own.both F (Hp.Own.both (Hp.Own.blk bo #[V] 33) (gX ax bx bl g a limit X))))) : Turns w W O (Hp.Own.both R (Hp.Own.both F X)) :=
  h.at2 (Turns.refl h.n11).dropL.dropL.dropL.dropL
set_option maxHeartbeats 4000000 in
theorem given_any (his : Bk.Is P b A) (hh : (Hp.Own.both P.own b.own).holds w) (a limit : Int) :
    Calls Try.prog 16 #[.pointer (some ⟨b.g, 0, none⟩), .int .i64 a, .int .i64 limit] w fun e w' => ∃ (xs : List (Nat × Value)) (V : Value) (P' : Pool) (b' : Bk), e = .returned V ∧ xs.map (·.1) = gvL limit (newer A.at_ (max a 0) 0 A.n) ∧ b'.g = b.g ∧ P.le P' ∧ Bk.Is P' b' A ∧
      Turns w w' (Hp.Own.both P.own b.own) (Hp.Own.both (Hp.Own.row 46 3 V xs.length (flS A.at_ xs)) (Hp.Own.both (Hp.Own.fam (dtF A.db xs)) (Hp.Own.both P'.own b'.own))) := by
  obtain ⟨ij, hij, hzaj, hzbj, hzcj⟩ := info_parts Try.info46
  have HIS := Lib.hid his
  have HR := Lib.hid (Turns.refl hh)
  clear his
  have HT0 : Hid (Turns w ((((w.alloc (.cells #[.int .i64 limit] 3)).alloc (.cells #[.slice none 0 0] 33)).alloc (.cells #[.pointer (some ⟨b.g, 0, none⟩)] 23)).alloc (.cells #[.int .i64 a] 3)) (Hp.Own.both P.own b.own)
      (oG A (w.heap.size + 1) (.slice none 0 0) [] (gX (w.heap.size + 1 + 1 + 1) (w.heap.size + 1 + 1) w.heap.size b.g a limit (Hp.Own.both P.own b.own)))) := Lib.hid (by
    have t := (((HR.out.push #[.int .i64 limit] 3).push #[.slice none 0 0] 33).push #[.pointer (some ⟨b.g, 0, none⟩)] 23).push #[.int .i64 a] 3
    simp only [World.size_alloc] at t
    have t2 := (t.at1 (Turns.refl t.n1).flip).flip
    have t3 := (t2.pushT (fam_nil (ι := Nat) _)).pushNil 46 3
    rw [← dtF_nil A.db] at t3
    exact t3)
  by_cases hl0 : limit = 0
  · have hd0 : (limit == 0) = true := by simpa using hl0
    have HL := Lib.hid hl0
    clear hl0 hh
    go_enter Try.func16, Try.ntmps16
    go_wp2_with (first
      | (go_at_call 13; (with_reducible refine (since_any b.g a _).mono ?_); rintro r w3 ⟨rfl, rfl⟩))
    exact bodyPost_ret (v := .slice none 0 0) (by simp [results, Try.results16, go_sem]) rfl ⟨[], .slice none 0 0, P, b, rfl, by rw [HL.out]; simp [gvL], rfl, Pool.le.rfl' P, HIS.out, gX_drop HT0.out⟩
  have hd0 : (limit == 0) = false := by simpa using hl0
  have HL := Lib.hid hl0
  clear hl0 hh
  refine (callsIn_wide (n := 5)).1 (callsIn_of_wp_marks Try.func16 rfl trivial ?_ rfl)
  simp only [Try.ntmps16, List.size_toArray, List.length_cons, List.length_nil, Nat.reduceAdd, Nat.reduceSub, Array.replicate_succ, Array.replicate_zero, List.push_toArray, List.append_toArray, List.nil_append, List.cons_append]
  refine wpIn_wide.2 ?_
  go_wp2_with (first
    | (go_at_call 13; (with_reducible refine (since_any b.g a _).mono ?_); rintro r w3 ⟨rfl, rfl⟩))
  obtain ⟨W0, hW0⟩ : ∃ W, W = (((w.alloc (.cells #[.int .i64 limit] 3)).alloc (.cells #[.slice none 0 0] 33)).alloc (.cells #[.pointer (some ⟨b.g, 0, none⟩)] 23)).alloc (.cells #[.int .i64 a] 3) := ⟨_, rfl⟩
  rw [← hW0] at HT0 ⊢
  have HS0 : Hid (W0.heap.size = w.heap.size + 4) := Lib.hid (by rw [hW0]; simp)
  clear hW0
  obtain ⟨ax, hax⟩ : ∃ b, b = w.heap.size + 1 + 1 + 1 := ⟨_, rfl⟩
  rw [← hax] at HT0 ⊢
  obtain ⟨bx, hbx⟩ : ∃ b, b = w.heap.size + 1 + 1 := ⟨_, rfl⟩
  rw [← hbx] at HT0 ⊢
  obtain ⟨bo, hbo⟩ : ∃ b, b = w.heap.size + 1 := ⟨_, rfl⟩
  rw [← hbo] at HT0 ⊢
  obtain ⟨bl, hbl⟩ : ∃ b, b = w.heap.size := ⟨_, rfl⟩
  rw [← hbl] at HT0 ⊢
  have hw0 : w.heap.size ≤ W0.heap.size := by have := HS0.out; omega
  clear hax hbx hbo hbl HS0
  generalize hact : Act.mk _ _ = act
  have HACT := Lib.hid hact
  refine (wpIn_wide (n := 5)).1 ?_
  obtain ⟨O', hO'⟩ : ∃ O, O = Hp.Own.both P.own b.own := ⟨_, rfl⟩
  have HO := Lib.hid hO'
  obtain ⟨PX, hPX⟩ : ∃ O, O = Hp.Own.both (P.share b).own b.lent.own := ⟨_, rfl⟩
  have HPX := Lib.hid hPX
  have hty : Typed (gX ax bx bl b.g a limit PX) := typed_gX (by rw [hPX]; exact typed_both (typed_pool _) (typed_bk _))
  have hps : ∀ W, PX.holds W → (P.share b).own.holds W := fun W h => by rw [hPX] at h; exact h.1
  rw [← hO'] at HT0
  clear hO' hPX HR
  have hkeep : ∀ (pre : List (Nat × Value)) (X Y : World) (row : Option Nat), (W0.heap.size ≤ X.heap.size ∧ ∃ V, Turns w X O' (oG A bo V pre (gX ax bx bl b.g a limit PX))) → X.grownBy Y row → (∀ r, row = some r → W0.heap.size ≤ r ∧ ∃ o : Obj, X.heap[r]? = some o ∧ o.isCells = false) → (W0.heap.size ≤ Y.heap.size ∧ ∃ V, Turns w Y O' (oG A bo V pre (gX ax bx bl b.g a limit PX))) := by
    rintro pre X Y row ⟨h2, V, h3⟩ hg hr
    exact ⟨Nat.le_trans h2 hg.size, V, Typed.turns (typed_oG hty) hw0 h3 hg hr⟩
  have HPB : Hid ((Hp.Own.both P.own b.own).holds W0) := Lib.hid (by have h := HT0.out.n111.2.1.2.1.2.1; rw [HO.out] at h; exact h)
  have hshl : ∀ x, (P.share b).own.foot x → x < W0.heap.size := fun x hx => Own.lt _ (share_turn (M := Hp.Own.blk b.g b.main 138) (Turns.refl HPB.out)).now.1 x hx
  refine wpIn_rangeE (m := 4) (gf := 65) (lb := #[.pointer (some ⟨bx, 0, none⟩), .pointer (some ⟨ax, 0, none⟩)]) (by rw [← hact]; rfl) (enters_of Try.func65 (by kernel_rfl) rfl)
    (since_seq (w := W0) HIS.out HPB.out bx ax a (by exact HT0.out.n111.2.1.1) (by exact HT0.out.n111.1)) kps_t (kps_b hshl) (Below.refl _ _) (fun _ => rfl)
    (fun pre W => (limit < 0 ∨ (pre.length : Int) < limit) ∧ W0.heap.size ≤ W.heap.size ∧ ∃ V, Turns w W O' (oG A bo V pre (gX ax bx bl b.g a limit PX)))
    (fun c pre W => c = .exit 0 ∧ (pre.length : Int) = limit ∧ W0.heap.size ≤ W.heap.size ∧ ∃ V, Turns w W O' (oG A bo V pre (gX ax bx bl b.g a limit PX)))
    ?hI ?hIx ?hSt ?h0
    (fun pre x a' W => ∃ Bx V, W0.heap.size ≤ W.heap.size ∧ Turns w W O' (Hp.Own.both (Hp.Own.blk Bx (shC A.at_ x) 46) (Hp.Own.both (Hp.Own.row 5 1 x.2 (A.db x.1).length ((A.db x.1).map bv)) (oG A bo V pre (gX ax bx bl b.g a limit PX)))) ∧ a' = { tmps := (act.tmps.setIfInBounds 20 (.agg (shC A.at_ x))).setIfInBounds 9 (.pointer (some ⟨Bx, 0, none⟩)), defers := [] })
    ?hAx ?assign ?body ?done ?stop
  case hI => exact fun pre X Y row hs hg hr => ⟨hs.1, hkeep pre X Y row hs.2 hg hr⟩
  case hIx => exact fun c pre X Y row hs hg hr => ⟨hs.1, hs.2.1, hkeep pre X Y row hs.2.2 hg hr⟩
  case hSt => exact fun W1 W' hg hst => Typed.keeps (typed_both (typed_pool _) (typed_bk _)) (Own.chg HPB.out (Chg.of_grown hg) (fun _ _ h => by cases h)) hst
  case h0 =>
    intro W1 W' hg hst
    refine ⟨by have := HL.out; show limit < 0 ∨ ((0 : Nat) : Int) < limit; omega, Nat.le_trans hg.size hst.chg.size, .slice none 0 0, ?_⟩
    have t1 := Typed.turns (typed_oG (typed_gX (by rw [HO.out]; exact typed_both (typed_pool _) (typed_bk _)))) hw0 HT0.out hg (fun r e => by cases e)
    exact t1.at6 (by rw [HO.out, HPX.out]; exact hst)
  case hAx =>
    rintro pre x a' s X Y row ⟨Bx, V, h1, h2, h3⟩ hg hr
    exact ⟨Bx, V, Nat.le_trans h1 hg.size, Typed.turns (typed_both (typed_blk _ _ _ (by decide) (by decide)) (typed_both (typed_row _ _ _ _ _ (by decide) (by decide)) (typed_oG hty))) hw0 h2 hg hr, h3⟩
  case assign =>
    rintro l pre ⟨u, v⟩ W1 W K ⟨hlim, hsz1, V, ht⟩ ⟨-, hsz, -⟩ ⟨X, n, c, hv, hn, hx⟩ hK
    have hv : v = .slice X n c := hv
    have hn : (A.db u).length = n := hn
    subst hv
    have HTW := Lib.hid (ht.pushT hx)
    have HNN := Lib.hid hn
    have hsub := HACT.out
    subst hsub
    clear ht hx hact HACT hkeep hn
    dsimp only [encS, shC]
    gi_wp2_with fail
    have t9 := HTW.out.push #[.int .i64 u, .int .i64 (A.at_ u), .slice X n c] 46
    refine hK _ _ ((KeepsOthers.alloc _ _).from _) (Kps.of_chg ((Chg.refl _ _).alloc _)) ⟨hlim, Nat.le_trans hsz (by simp), V, t9.dropL.dropL⟩ ⟨W.heap.size, V, Nat.le_trans hsz (by simp), ?_, rfl⟩
    rw [HNN.out]
    exact t9
  case body =>
    rintro l pre ⟨u, v⟩ a' W hl ⟨rl, hrl⟩ ⟨hlim, hsz, -⟩ ⟨Bx, V, -, ht, rfl⟩ hlt
    have hsub := HACT.out
    subst hsub
    obtain ⟨Av, cv, rfl⟩ := row_slice ht.n110
    have z0 : W.cell? ⟨Bx, 0, none⟩ = some (.int .i64 u) := ht.b0.cell 0
    have z1 : W.cell? ⟨Bx, 1, none⟩ = some (.int .i64 (A.at_ u)) := ht.b0.cell 1
    have z2 : W.cell? ⟨Bx, 2, none⟩ = some v := ht.b0.cell 2
    obtain ⟨nz, hnz⟩ : ∃ n, pre.length = n := ⟨_, rfl⟩
    have zo : W.cell? ⟨bo, 0, none⟩ = some (.slice Av nz cv) := by rw [← hnz]; exact ht.n111.2.1.1.cell 0
    have HT := Lib.hid ht
    obtain ⟨va, vc, hv0⟩ := row_slice ht.n10
    have hv : v = .slice va (A.db u).length vc := hv0
    clear hv0
    obtain ⟨vn, hvn⟩ : ∃ n, n = (A.db u).length := ⟨_, rfl⟩
    rw [← hvn] at hv
    have HVV := Lib.hid hv
    rw [hv] at z2
    have hlz : nz ≤ 63 := by
      have h9 : (newer A.at_ (max a 0) 0 A.n).length ≤ A.n := by
        unfold newer
        exact Nat.le_trans (List.length_filter_le _ _) (by simp)
      have := HIS.out.ok.n64
      have := HIS.out.n
      omega
    have HNZ := Lib.hid hnz
    rw [hnz] at hlim
    have HLM := Lib.hid hlim
    have HLT := Lib.hid hlt
    have zl : W.cell? ⟨bl, 0, none⟩ = some (.int .i64 limit) := ht.n111.2.1.2.1.2.1.2.1.1.cell 0
    clear ht hnz hact HACT hrl hkeep hlt hlim hv hvn
    obtain ⟨fl, hfl⟩ : ∃ l, l = flS A.at_ pre := ⟨_, rfl⟩
    have HROW : Hid (W.ownsRow 0 46 3 (.slice Av nz cv) nz fl) := Lib.hid (by rw [hfl, ← HNZ.out]; exact HT.out.n110)
    have HFL := Lib.hid hfl
    clear hfl
    dsimp only []
    have fin : ∀ g7 c7 w7, Turns W w7 (Hp.Own.row 46 3 (.slice Av nz cv) nz fl) (Hp.Own.row 46 3 (.slice (some ⟨g7, 0, none⟩) (nz + 1) c7) (nz + 1) (fl ++ (#[.int .i64 u, .int .i64 (A.at_ u), .slice va vn vc] : Array Value).toList)) →
        w7.cell? ⟨bo, 0, none⟩ = some (.slice Av nz cv) ∧ w7.frozen? ⟨bo, 0, none⟩ = false ∧ w7.cell? ⟨bl, 0, none⟩ = some (.int .i64 limit) ∧ bo ≠ bl ∧
        KeepsFrom W0.heap.size W (w7.setCell ⟨bo, 0, none⟩ (.slice (some ⟨g7, 0, none⟩) (nz + 1) c7)) ∧ Kps (P.share b) W (w7.setCell ⟨bo, 0, none⟩ (.slice (some ⟨g7, 0, none⟩) (nz + 1) c7)) ∧
        W0.heap.size ≤ (w7.setCell ⟨bo, 0, none⟩ (.slice (some ⟨g7, 0, none⟩) (nz + 1) c7)).heap.size ∧ ∃ V, Turns w (w7.setCell ⟨bo, 0, none⟩ (.slice (some ⟨g7, 0, none⟩) (nz + 1) c7)) O' (oG A bo V (pre ++ [(u, v)]) (gX ax bx bl b.g a limit PX)) := fun g7 c7 w7 t7 => by
      have hz : HT.out.now = HT.out.now := rfl
      have tr : Turns W w7 (Hp.Own.row 46 3 (.slice Av pre.length cv) pre.length (flS A.at_ pre)) (Hp.Own.row 46 3 (.slice (some ⟨g7, 0, none⟩) (nz + 1) c7) (pre.length + 1) (flS A.at_ (pre ++ [(u, v)]))) := by
        rw [flS_append, HNZ.out, ← HFL.out, show flS A.at_ [(u, v)] = (#[.int .i64 u, .int .i64 (A.at_ u), .slice va vn vc] : Array Value).toList by rw [HVV.out]; rfl]
        exact t7
      have ta := (Turns.refl HT.out.now).at20 tr
      have tb := ta.at3 ((Turns.refl ta.n111).put10 0 (.slice (some ⟨g7, 0, none⟩) (nz + 1) c7))
      have tall : Typed (Hp.Own.both (Hp.Own.blk Bx (shC A.at_ (u, v)) 46) (Hp.Own.both (Hp.Own.row 5 1 v (A.db u).length ((A.db u).map bv)) (oG A bo (.slice Av pre.length cv) pre (gX ax bx bl b.g a limit PX)))) :=
        typed_both (typed_blk _ _ _ (by decide) (by decide)) (typed_both (typed_row _ _ _ _ _ (by decide) (by decide)) (typed_oG hty))
      refine ⟨by have h := ta.n111.2.1.1.cell 0; rw [HNZ.out] at h; exact h, ta.n111.2.1.1.frozen 0, ta.n111.2.1.2.1.2.1.2.1.1.cell 0, fun e => ta.n111.2.1.2.2 bo rfl (Or.inr (Or.inr (Or.inl e))), Typed.keeps tall HT.out.now tb, Typed.kps tall HT.out.now tb (fun _ => hps _ tb.n111.2.1.2.1.2.1.2.1.2.1), Nat.le_trans hsz tb.chg.size, _, oG_lay (HT.out.trans tb)⟩
    have FIN := Lib.hid fin
    clear fin
    by_cases c2 : ((nz : Int) + 1) = limit
    · have d2 : ((nz : Int) + 1 == limit) = true := by simpa using c2
      have HC2 := Lib.hid c2
      clear c2
      gi_wp2_with (first
        | (gi_at_builtin; refine wpListIn_app1M rfl (.tmp 21) (.tmp 23) 33 rfl 46 ij (.agg #[.int .i64 0, .int .i64 0, .slice none 0 0]) 3 40 Try.underlying33 hij hzaj hzbj hzcj rfl (by decide) (.slice Av nz cv) nz fl rfl _ _ _ rfl (by first | rfl | simp) HROW.out rfl (by simp [Value.oneCell']) (by simp only [maxLen]; omega) (by omega) ?_; intro g7 c7 w7 hc7 ht7; have HF := Lib.hid (FIN.out g7 c7 w7 ht7); clear ht7; have x0 := HF.out.1; have x1 := HF.out.2.1; have x5 := HF.out.2.2.1; have h58 := HF.out.2.2.2.1; have h85 := h58.symm))
      exact ⟨HF.out.2.2.2.2.1, rfl, by rw [List.length_append, HNZ.out]; have := HC2.out; simp; omega, HF.out.2.2.2.2.2.2⟩
    · have d2 : ((nz : Int) + 1 == limit) = false := by simpa using c2
      have HC2 := Lib.hid c2
      clear c2
      gi_wp2_with (first
        | (gi_at_builtin; refine wpListIn_app1M rfl (.tmp 21) (.tmp 23) 33 rfl 46 ij (.agg #[.int .i64 0, .int .i64 0, .slice none 0 0]) 3 40 Try.underlying33 hij hzaj hzbj hzcj rfl (by decide) (.slice Av nz cv) nz fl rfl _ _ _ rfl (by first | rfl | simp) HROW.out rfl (by simp [Value.oneCell']) (by simp only [maxLen]; omega) (by omega) ?_; intro g7 c7 w7 hc7 ht7; have HF := Lib.hid (FIN.out g7 c7 w7 ht7); clear ht7; have x0 := HF.out.1; have x1 := HF.out.2.1; have x5 := HF.out.2.2.1; have h58 := HF.out.2.2.2.1; have h85 := h58.symm))
      exact ⟨HF.out.2.2.2.2.1, HF.out.2.2.2.2.2.1, by rw [List.length_append, HNZ.out]; have := HC2.out; have := HLM.out; simp; omega, HF.out.2.2.2.2.2.2⟩
  case done =>
    rintro D xs W hD hS ⟨hlim, hsz, V, ht⟩ hK
    have hsub := HACT.out
    subst hsub
    have zo : W.cell? ⟨bo, 0, none⟩ = some V := ht.n110.cell 0
    obtain ⟨Av, cv, hV⟩ := row_slice ht.n0
    rw [hV] at zo
    obtain ⟨nz, hnz⟩ : ∃ n, xs.length = n := ⟨_, rfl⟩
    rw [hnz] at zo
    have hga : xs.map (·.1) = gvL limit (newer A.at_ (max a 0) 0 A.n) := by
      rw [← hS]
      unfold gvL
      split
      · rfl
      · exact (List.take_of_length_le (by simp; omega)).symm
    have HTW := Lib.hid (gX_drop ht)
    have HKD := Lib.hid hK
    have HGA := Lib.hid hga
    have HVV : Hid (V = .slice Av nz cv) := Lib.hid (by rw [hV, hnz])
    clear ht hK hact HACT hkeep hlim hga hS hV hnz
    dsimp only []
    go_wp2_with fail
    refine ⟨by simp, .inl ⟨_, _, rfl, run_takeDeferred HKD.out, ?_⟩⟩
    refine ⟨.slice Av nz cv, by simp [results, Try.results16, go_sem], xs, V, P.share b, b.lent, by rw [HVV.out], HGA.out, rfl, Pool.le_share P b, HIS.out.lent, ?_⟩
    rw [← HO.out, ← HPX.out]
    exact Typed.turns (typed_both (typed_row _ _ _ _ _ (by decide) (by decide)) (typed_both (typed_dtF _ _) (by rw [HPX.out]; exact typed_both (typed_pool _) (typed_bk _)))) hw0 HTW.out (grownBy_putObj' _ D (.deferred none)) (fun r e => by cases e; exact ⟨hD, _, HKD.out, rfl⟩)
  case stop =>
    rintro D c xs W hD hp ⟨rfl, hlm, hsz, V, ht⟩ hK
    have hsub := HACT.out
    subst hsub
    have zo : W.cell? ⟨bo, 0, none⟩ = some V := ht.n110.cell 0
    obtain ⟨Av, cv, hV⟩ := row_slice ht.n0
    rw [hV] at zo
    obtain ⟨nz, hnz⟩ : ∃ n, xs.length = n := ⟨_, rfl⟩
    rw [hnz] at zo
    have hga : xs.map (·.1) = gvL limit (newer A.at_ (max a 0) 0 A.n) := by
      have h1 := prefix_take hp
      unfold gvL
      rw [if_neg (by omega), ← hlm, Int.toNat_natCast]
      rw [List.length_map] at h1
      exact h1
    have HTW := Lib.hid (gX_drop ht)
    have HKD := Lib.hid hK
    have HGA := Lib.hid hga
    have HVV : Hid (V = .slice Av nz cv) := Lib.hid (by rw [hV, hnz])
    clear ht hK hact HACT hkeep hlm hga hp hV hnz
    refine (wpIn_wide (n := 5)).2 ?_
    dsimp only []
    go_wp2_with fail
    refine ⟨by simp, .inl ⟨_, _, rfl, run_takeDeferred HKD.out, ?_⟩⟩
    refine ⟨.slice Av nz cv, by simp [results, Try.results16, go_sem], xs, V, P.share b, b.lent, by rw [HVV.out], HGA.out, rfl, Pool.le_share P b, HIS.out.lent, ?_⟩
    rw [← HO.out, ← HPX.out]
    exact Typed.turns (typed_both (typed_row _ _ _ _ _ (by decide) (by decide)) (typed_both (typed_dtF _ _) (by rw [HPX.out]; exact typed_both (typed_pool _) (typed_bk _)))) hw0 HTW.out (grownBy_putObj' _ D (.deferred none)) (fun r e => by cases e; exact ⟨hD, _, HKD.out, rfl⟩)
end
end Go.Proofs.Ytmpkjfengfgagaa.Bk
