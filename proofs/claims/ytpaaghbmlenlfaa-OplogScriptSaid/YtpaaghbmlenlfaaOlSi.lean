/- gathered: what All gives, at most so many. -/
import Derived.Test.YtpaaghbmlenlfaaOlSh
namespace Go.Proofs.Ytpaaghbmlenlfaa.Ol
open Go.Shelf
open Go.Hp.M7
open Go.RowKit Go.Hp
attribute [local go_sem] min2_lean min_two max2_lean max_two
set_option linter.unusedSimpArgs false
set_option linter.unusedVariables false
set_option maxRecDepth 100000
theorem run_func_ne (f : Fn) (a c : Array Value) (W : World) : Sem.run Try.prog (binOp BinOp.neq 63 (.func f a c) .nilFunc) W = .ok (.bool true) W := by
  obtain ⟨x, y, z, hu⟩ := und63
  have h : ∀ d, Sem.run Try.prog (Op.equalIn (d + 1) 63 (.func f a c) .nilFunc) W = .ok false W := by
    intro d
    rw [Op.equalIn]
    simp only [Sem.run_bind, run_underlying hu, Result.andThen_ok]
    rfl
  simp only [binOp]
  go_simp
  unfold Op.equal
  rw [show Op.maxDepth = (Op.maxDepth - 1) + 1 from rfl, h]
  rfl
attribute [local go_sem] Oper.semAt_some run_func_eq run_func_ne
/-- What is gathered. -/
def gaL (A : Ab) (limit : Int) : List En := if limit < 0 then A.2 else A.2.take limit.toNat
abbrev bxg (b4 b5 b6 b7 bC : Nat) (p : Value) (x4 x5 : Int) (v6 : Value) (t7 : Bool) : Hp.Own := Hp.Own.both (Hp.Own.blk bC #[p] 44) (Hp.Own.both (Hp.Own.blk b7 #[.bool t7] 4) (Hp.Own.both (Hp.Own.blk b6 #[v6] 52) (Hp.Own.both (Hp.Own.blk b5 #[.int .i64 x5] 3) (Hp.Own.both (Hp.Own.blk b4 #[.int .i64 x4] 3) Hp.Own.emp))))
theorem bxg_celled {b4 b5 b6 b7 bC : Nat} {p v6 : Value} {x4 x5 : Int} {t7 : Bool} : Celled (bxg b4 b5 b6 b7 bC p x4 x5 v6 t7) := celled_both (celled_blk _ _ _) (celled_both (celled_blk _ _ _) (celled_both (celled_blk _ _ _) (celled_both (celled_blk _ _ _) (celled_both (celled_blk _ _ _) celled_emp))))
theorem bxg_see {b8 b4 b5 b6 b7 bC m : Nat} {V p v6 : Value} {x4 x5 : Int} {t7 : Bool} {zs : List En} {W : World} (h : (oB b8 V m zs (bxg b4 b5 b6 b7 bC p x4 x5 v6 t7)).holds W) :
    W.cell? ⟨b8, 0, none⟩ = some V ∧ W.frozen? ⟨b8, 0, none⟩ = false ∧ W.cell? ⟨b4, 0, none⟩ = some (.int .i64 x4) ∧ W.cell? ⟨b5, 0, none⟩ = some (.int .i64 x5) ∧ W.cell? ⟨b6, 0, none⟩ = some v6 ∧ W.frozen? ⟨b6, 0, none⟩ = false ∧ W.cell? ⟨b7, 0, none⟩ = some (.bool t7) ∧ W.frozen? ⟨b7, 0, none⟩ = false ∧ W.cell? ⟨bC, 0, none⟩ = some p ∧ b6 < W.heap.size ∧ b7 < W.heap.size ∧ b6 ≠ b7 :=
  ⟨h.1.cell 0, h.1.frozen 0, h.2.1.2.1.2.1.2.1.2.1.2.1.1.cell 0, h.2.1.2.1.2.1.2.1.2.1.1.cell 0, h.2.1.2.1.2.1.2.1.1.cell 0, h.2.1.2.1.2.1.2.1.1.frozen 0, h.2.1.2.1.2.1.1.cell 0, h.2.1.2.1.2.1.1.frozen 0, h.2.1.2.1.1.cell 0, Blk.lt h.2.1.2.1.2.1.2.1.1, Blk.lt h.2.1.2.1.2.1.1,
    fun e => h.2.1.2.1.2.1.2.2 b7 rfl (Or.inl e.symm)⟩
/-- The results are laid down. -/
theorem bxg_end {b8 b4 b5 b6 b7 bC m : Nat} {V p v6 : Value} {x4 x5 : Int} {t7 : Bool} {zs : List En} {w W : World} {O : Hp.Own} (h : Turns w W O (oB b8 V m zs (bxg b4 b5 b6 b7 bC p x4 x5 v6 t7))) (v : Value) (t : Bool) :
    Turns w ((W.setCell ⟨b6, 0, none⟩ v).setCell ⟨b7, 0, none⟩ (.bool t)) O (oB b8 V m zs (bxg b4 b5 b6 b7 bC p x4 x5 v t)) := by
  have t1 := h.at3 (Turns.rightT h.now.2.1.2.1.2.1 (Turns.left h.now.2.1.2.1.2.1.2.1 (Turns.blk_set h.now.2.1.2.1.2.1.2.1.1 0 v)))
  exact t1.at3 (Turns.left t1.now.2.1.2.1.2.1 (Turns.blk_set t1.now.2.1.2.1.2.1.1 0 (.bool t)))
theorem upA_take {A : Ab} {pre : List (Int × En)} (h : pre <+: upA A A.2.length) : pre.map (·.2) = A.2.take pre.length := by
  have h1 : pre.map (·.2) <+: A.2 := by
    have := h.map (·.2)
    rwa [upA_snd] at this
  have h2 := List.prefix_iff_eq_take.1 h1
  rwa [List.length_map] at h2
set_option maxHeartbeats 4000000 in
theorem gath_any (g pb m : Nat) (A : Ab) (limit : Int) (w : World) (h : (pO g pb m A).holds w) :
    Calls Try.prog 55 #[.pointer (some ⟨g, 0, none⟩), .int .i64 A.1, .int .i64 limit] w fun e w' => ∃ V n, n = (gaL A limit).length ∧ e = .returned (.tuple #[V, .bool true]) ∧ Turns w w' Hp.Own.emp (Hp.Own.row 51 7 V n (flat (gaL A limit))) := by
  obtain ⟨ij, hij, hzaj, hzbj, hzcj⟩ := info_parts Try.info51
  have hok := pO_ok h
  have HP := Lib.hid h
  have hlen : A.2.length ≤ 64 := by have := hok.len; have := hok.m64; omega
  have lb0 := hok.b0
  have lb1 := hok.b1
  have HT0 := Lib.hid ((((((((((((turn_emp w).push #[.int .i64 A.1] 3).push #[.int .i64 limit] 3).push #[.slice none 0 0] 52).push #[.bool false] 4).push #[.slice none 0 0] 52).push #[.pointer (some ⟨g, 0, none⟩)] 44).pushNil 51 7).flip).swp).flip).swp)
  simp only [World.size_alloc] at HT0
  clear h
  by_cases hl0 : limit = 0
  · have hd0 : (limit == 0) = true := by simpa using hl0
    have HL := Lib.hid hl0
    clear hl0
    go_enter Try.func55, Try.ntmps55
    go_wp2_with (first
      | (go_at_call 29; (with_reducible refine (all_any g _).mono ?_); rintro r w3 ⟨rfl, rfl⟩))
    have HE := ((((((((((((turn_emp w).push #[.int .i64 A.1] 3).push #[.int .i64 limit] 3).push #[.slice none 0 0] 52).push #[.bool true] 4).push #[.slice none 0 0] 52).push #[.pointer (some ⟨g, 0, none⟩)] 44).pushNil 51 7).flip).swp).flip).swp)
    simp only [World.size_alloc] at HE
    have hz : gaL A limit = [] := by rw [HL.out]; rfl
    rw [hz]
    exact bodyPost_ret (v := .tuple #[.slice none 0 0, .bool true]) (by simp [results, Try.results55, go_sem]) rfl ⟨.slice none 0 0, 0, rfl, rfl, HE.dropL.dropR⟩
  have hd0 : (limit == 0) = false := by simpa using hl0
  have HL := Lib.hid hl0
  clear hl0
  refine (callsIn_wide (n := 5)).1 (callsIn_of_wp_marks Try.func55 rfl trivial ?_ rfl)
  simp only [Try.ntmps55, List.size_toArray, List.length_cons, List.length_nil, Nat.reduceAdd, Nat.reduceSub, Array.replicate_succ, Array.replicate_zero, List.push_toArray, List.append_toArray, List.nil_append, List.cons_append]
  refine wpIn_wide.2 ?_
  go_wp2_with (first
    | (go_at_call 29; (with_reducible refine (all_any g _).mono ?_); rintro r w3 ⟨rfl, rfl⟩))
  obtain ⟨W0, hW0⟩ : ∃ W, W = (((((w.alloc (.cells #[.int .i64 A.1] 3)).alloc (.cells #[.int .i64 limit] 3)).alloc (.cells #[.slice none 0 0] 52)).alloc (.cells #[.bool false] 4)).alloc (.cells #[.slice none 0 0] 52)).alloc (.cells #[.pointer (some ⟨g, 0, none⟩)] 44) := ⟨_, rfl⟩
  rw [← hW0] at HT0 ⊢
  have HS0 : Hid (W0.heap.size = w.heap.size + 6) := Lib.hid (by rw [hW0]; simp)
  clear hW0
  obtain ⟨bC, hbC⟩ : ∃ b, b = w.heap.size + 1 + 1 + 1 + 1 + 1 := ⟨_, rfl⟩
  rw [← hbC] at HT0 ⊢
  obtain ⟨b8, hb8⟩ : ∃ b, b = w.heap.size + 1 + 1 + 1 + 1 := ⟨_, rfl⟩
  rw [← hb8] at HT0 ⊢
  obtain ⟨b7, hb7⟩ : ∃ b, b = w.heap.size + 1 + 1 + 1 := ⟨_, rfl⟩
  rw [← hb7] at HT0 ⊢
  obtain ⟨b6, hb6⟩ : ∃ b, b = w.heap.size + 1 + 1 := ⟨_, rfl⟩
  rw [← hb6] at HT0 ⊢
  obtain ⟨b5, hb5⟩ : ∃ b, b = w.heap.size + 1 := ⟨_, rfl⟩
  rw [← hb5] at HT0 ⊢
  obtain ⟨b4, hb4⟩ : ∃ b, b = w.heap.size := ⟨_, rfl⟩
  rw [← hb4] at HT0 ⊢
  have HBS : Hid (w.heap.size ≤ W0.heap.size ∧ b8 < W0.heap.size ∧ bC < W0.heap.size ∧ ∀ x, (bxg b4 b5 b6 b7 bC (.pointer (some ⟨g, 0, none⟩)) A.1 limit (.slice none 0 0) false).foot x → x < W0.heap.size) := Lib.hid (by
    have h := HS0.out
    refine ⟨by omega, by omega, by omega, ?_⟩
    rintro x (hx | hx | hx | hx | hx | hx)
    · have hx : x = bC := hx; omega
    · have hx : x = b7 := hx; omega
    · have hx : x = b6 := hx; omega
    · have hx : x = b5 := hx; omega
    · have hx : x = b4 := hx; omega
    · exact hx.elim)
  obtain ⟨hw0, hb80, hbC0, -⟩ := HBS.out
  clear hbC hb8 hb7 hb6 hb5 hb4 HS0
  have HP0 := Lib.hid (Own.chg HP.out HT0.out.chg (fun _ _ h => h))
  obtain ⟨B, hB⟩ : ∃ B, B = bxg b4 b5 b6 b7 bC (.pointer (some ⟨g, 0, none⟩)) A.1 limit (.slice none 0 0) false := ⟨_, rfl⟩
  have HBB := Lib.hid hB
  have hBc : Celled B := by rw [hB]; exact bxg_celled
  have HT1 : Hid (Turns w W0 Hp.Own.emp (oB b8 (.slice none 0 0) 0 [] B)) := Lib.hid (by rw [hB]; exact HT0.out)
  clear hB
  generalize hact : Act.mk _ _ = act
  have HACT := Lib.hid hact
  refine (wpIn_wide (n := 5)).1 ?_
  have hkeep : ∀ (pre : List (Int × En)) (X Y : World) (row : Option Nat), (W0.heap.size ≤ X.heap.size ∧ ∃ V, Turns w X Hp.Own.emp (oB b8 V pre.length (pre.map (·.2)) B)) → X.grownBy Y row → (∀ r, row = some r → W0.heap.size ≤ r ∧ ∃ o : Obj, X.heap[r]? = some o ∧ o.isCells = false) → (W0.heap.size ≤ Y.heap.size ∧ ∃ V, Turns w Y Hp.Own.emp (oB b8 V pre.length (pre.map (·.2)) B)) := by
    rintro pre X Y row ⟨h2, V, h3⟩ hg hr
    exact ⟨Nat.le_trans h2 hg.size, V, turns_keep (celled_oB hBc) hw0 h3 hg hr⟩
  refine wpIn_rangeFunc_ownH rfl (by omega) (gf := 48) (lb := #[.pointer (some ⟨bC, 0, none⟩)]) (by rw [← hact]; rfl) trivial (enters_of Try.func48 (by kernel_rfl) rfl)
    (all_seq g pb m A bC W0.heap.size 4 ⟨b8, 0, none⟩ W0 (Nat.le_refl _) hb80 (fun b hb => oB_pts HT1.out.now b hb) hbC0 (by have h := HT1.out.now; rw [HBB.out] at h; exact (bxg_see h).2.2.2.2.2.2.2.2.1) HP0.out (by omega)) kpt_t (kpt_b hb80) (Below.refl _ _) (fun _ => rfl)
    (fun pre W => (limit < 0 ∨ (pre.length : Int) < limit) ∧ W0.heap.size ≤ W.heap.size ∧ ∃ V, Turns w W Hp.Own.emp (oB b8 V pre.length (pre.map (·.2)) B))
    (fun c pre W => (c = .ret ∧ ¬ pre <+: upA A A.2.length) ∨ (c = .exit 0 ∧ (pre.length : Int) = limit ∧ W0.heap.size ≤ W.heap.size ∧ ∃ V, Turns w W Hp.Own.emp (oB b8 V pre.length (pre.map (·.2)) B)))
    ?hI ?hIx ?h0
    (fun x a' W => ∃ Bx, Vb W0.heap.size b8 W Bx x.2.cells.toArray 51 ∧ b8 < W.heap.size ∧ a' = { tmps := (((act.tmps.setIfInBounds 23 (.int .i64 x.1)).setIfInBounds 24 (.agg x.2.cells.toArray)).setIfInBounds 10 (.int .i64 x.1)).setIfInBounds 11 (.pointer (some ⟨Bx, 0, none⟩)), defers := [] })
    ?hAx ?assign ?body ?done ?stop
  case hI => exact fun pre X Y row hs hg hr => ⟨hs.1, hkeep pre X Y row hs.2 hg hr⟩
  case hIx =>
    intro c pre X Y row hs hg hr
    rcases hs with hs | ⟨h1, h2, h3⟩
    · exact Or.inl hs
    · exact Or.inr ⟨h1, h2, hkeep pre X Y row h3 hg hr⟩
  case h0 => exact ⟨by have := HL.out; show limit < 0 ∨ ((0 : Nat) : Int) < limit; omega, Nat.le_refl _, _, HT1.out⟩
  case hAx =>
    intro x a' s X Y row hs hg hr
    obtain ⟨Bx, h1, h2, h3⟩ := hs
    exact ⟨Bx, h1.keep hb80 h2 hg hr, Nat.lt_of_lt_of_le h2 hg.size, h3⟩
  case assign =>
    rintro l pre ⟨op', ec, en, kk, nm, tx, nu, mo⟩ W K ⟨hlim, hsz, V, ht⟩ hK
    have hsub := HACT.out
    subst hsub
    have hbW : b8 < W.heap.size := Nat.lt_of_lt_of_le hb80 hsz
    have HPL := Lib.hid (fun b hb => oB_pts ht.now b hb)
    have HTW := Lib.hid ht
    clear ht hact HACT hkeep
    dsimp only [encE, En.cells]
    gi_wp2_with fail
    exact hK _ _ ((KeepsOthers.alloc _ _).from _) (Kpt.of_chg ((Chg.refl _ _).alloc _) hbW) ⟨hlim, Nat.le_trans hsz (by simp), V, HTW.out.alloc _⟩
      ⟨W.heap.size, ⟨hsz, fun hp => Nat.lt_irrefl _ (HPL.out _ (pts_of_block (Below.heap_alloc _ _ _ hbW) _ hp)), Blk.new _ _ _⟩, Nat.lt_of_lt_of_le hbW (by simp), rfl⟩
  case body =>
    rintro l pre ⟨op', ec, en, ek, em, et, eu, eo⟩ a' W hl ⟨rl, hrl⟩ ⟨hlim, hsz, V, ht⟩ ⟨Bx, hvb, hbW, rfl⟩ hlt
    have hsub := HACT.out
    subst hsub
    have ht' := ht
    rw [HBB.out] at ht'
    obtain ⟨z8, z8f, z4, z5, z6, z6f, z7, z7f, -, l6, l7, h67⟩ := bxg_see ht'.now
    have h76 := h67.symm
    have HT' := Lib.hid ht'
    clear ht'
    obtain ⟨zs, hzs⟩ : ∃ zs, pre.map (·.2) = zs := ⟨_, rfl⟩
    obtain ⟨Av, cv, rfl⟩ := row_slice ht.now.2.1.1
    obtain ⟨nz, hnz⟩ : ∃ n, pre.length = n := ⟨_, rfl⟩
    have hlz : nz ≤ 63 := by omega
    rw [hzs, hnz] at ht HT'
    rw [hnz] at z8
    have HT := Lib.hid ht
    have HV := Lib.hid hvb
    have HZS := Lib.hid hzs
    have HNZ := Lib.hid hnz
    have HLT := Lib.hid hlt
    rw [hnz] at hlim
    have HLM := Lib.hid hlim
    clear hlim
    have q0 : W.cell? ⟨Bx, 0, none⟩ = some (.int .i64 ec) := hvb.2.2.cell 0
    have q1 : W.cell? ⟨Bx, 1, none⟩ = some (.int .i64 en) := hvb.2.2.cell 1
    have q2 : W.cell? ⟨Bx, 2, none⟩ = some (.int .i64 ek) := hvb.2.2.cell 2
    have q3 : W.cell? ⟨Bx, 3, none⟩ = some (.string em) := hvb.2.2.cell 3
    have q4 : W.cell? ⟨Bx, 4, none⟩ = some (.string et) := hvb.2.2.cell 4
    have q5 : W.cell? ⟨Bx, 5, none⟩ = some (.int .i64 eu) := hvb.2.2.cell 5
    have q6 : W.cell? ⟨Bx, 6, none⟩ = some (.int .i64 eo) := hvb.2.2.cell 6
    have hw1 : IntKind.i64.wrap (A.1 + 1) = A.1 + 1 := IntWalk.i64_in _ (by omega)
    have hw2 : IntKind.i64.wrap (A.1 + 1 + (nz : Int)) = A.1 + 1 + (nz : Int) := IntWalk.i64_in _ (by omega)
    clear ht hvb hzs hnz hact HACT hrl hkeep hlt
    simp only [List.setIfInBounds_toArray, List.set_cons_zero, List.set_cons_succ, En.cells]
    by_cases c1 : op' = A.1 + 1 + (nz : Int)
    · have d1 : (op' != A.1 + 1 + (nz : Int)) = false := by simpa using c1
      subst c1
      by_cases c2 : ((nz : Int) + 1) = limit
      · have d2 : ((nz : Int) + 1 == limit) = true := by simpa using c2
        have HC2 := Lib.hid c2
        clear c2
        gi_wp2_with (first
          | (gi_at_builtin; refine wpListIn_app1M rfl (.tmp 32) (.tmp 34) 52 rfl 51 ij (.agg En.zero.cells.toArray) 7 72 Try.underlying52 hij hzaj hzbj hzcj rfl (by decide) (.slice Av nz cv) nz (flat zs) rfl _ _ _ rfl (by first | rfl | simp) (by exact HT.out.now.2.1.1) rfl (by exact (En.mk ec en ek em et eu eo).one) (by simp only [maxLen]; omega) (by omega) ?_; intro g7 c7 w7 hc7 ht7; have HT7 := Lib.hid ((Turns.refl HT.out.now).at10 ht7); have HT8 := Lib.hid (HT.out.at10 ht7); clear ht7; have x0 := HT7.out.now.1.cell 0; have x1 := HT7.out.now.1.frozen 0; have x5 : w7.cell? ⟨b5, 0, none⟩ = some (.int .i64 limit) := (by have h := HT7.out.now.2.1.2.1; rw [HBB.out] at h; exact h.2.1.2.1.2.1.1.cell 0); have h58 : b8 ≠ b5 := (by have h := HT'.out.now; exact fun e => h.2.2 b5 e.symm (Or.inr (Or.inr (Or.inr (Or.inr (Or.inl rfl)))))); have h85 := h58.symm))
        have ec1 : flat zs ++ (#[.int .i64 ec, .int .i64 en, .int .i64 ek, .string em, .string et, .int .i64 eu, .int .i64 eo] : Array Value).toList = flat (zs ++ [⟨ec, en, ek, em, et, eu, eo⟩]) := by rw [flat_append, flat_one]; rfl
        rw [ec1] at HT7 HT8
        have t9 := HT7.out.put0 0 (.slice (some ⟨g7, 0, none⟩) (nz + 1) c7)
        obtain ⟨k1, k2⟩ := oB_kept HT.out.now t9 hb80 (by rw [HBB.out]; exact HBS.out.2.2.2) hBc
        have hI' : W0.heap.size ≤ (w7.setCell ⟨b8, 0, none⟩ (.slice (some ⟨g7, 0, none⟩) (nz + 1) c7)).heap.size ∧ ∃ V, Turns w (w7.setCell ⟨b8, 0, none⟩ (.slice (some ⟨g7, 0, none⟩) (nz + 1) c7)) Hp.Own.emp (oB b8 V (pre ++ [(A.1 + 1 + (nz : Int), (⟨ec, en, ek, em, et, eu, eo⟩ : En))]).length ((pre ++ [(A.1 + 1 + (nz : Int), (⟨ec, en, ek, em, et, eu, eo⟩ : En))]).map (·.2)) B) := by
          refine ⟨Nat.le_trans hsz t9.chg.size, .slice (some ⟨g7, 0, none⟩) (nz + 1) c7, ?_⟩
          rw [map_snoc, HZS.out, List.length_append, HNZ.out]
          exact HT8.out.put0 0 (.slice (some ⟨g7, 0, none⟩) (nz + 1) c7)
        exact ⟨k1, Or.inr ⟨rfl, by rw [List.length_append, HNZ.out]; have := HC2.out; simp; omega, hI'⟩⟩
      · have d2 : ((nz : Int) + 1 == limit) = false := by simpa using c2
        have HC2 := Lib.hid c2
        clear c2
        gi_wp2_with (first
          | (gi_at_builtin; refine wpListIn_app1M rfl (.tmp 32) (.tmp 34) 52 rfl 51 ij (.agg En.zero.cells.toArray) 7 72 Try.underlying52 hij hzaj hzbj hzcj rfl (by decide) (.slice Av nz cv) nz (flat zs) rfl _ _ _ rfl (by first | rfl | simp) (by exact HT.out.now.2.1.1) rfl (by exact (En.mk ec en ek em et eu eo).one) (by simp only [maxLen]; omega) (by omega) ?_; intro g7 c7 w7 hc7 ht7; have HT7 := Lib.hid ((Turns.refl HT.out.now).at10 ht7); have HT8 := Lib.hid (HT.out.at10 ht7); clear ht7; have x0 := HT7.out.now.1.cell 0; have x1 := HT7.out.now.1.frozen 0; have x5 : w7.cell? ⟨b5, 0, none⟩ = some (.int .i64 limit) := (by have h := HT7.out.now.2.1.2.1; rw [HBB.out] at h; exact h.2.1.2.1.2.1.1.cell 0); have h58 : b8 ≠ b5 := (by have h := HT'.out.now; exact fun e => h.2.2 b5 e.symm (Or.inr (Or.inr (Or.inr (Or.inr (Or.inl rfl)))))); have h85 := h58.symm))
        have ec1 : flat zs ++ (#[.int .i64 ec, .int .i64 en, .int .i64 ek, .string em, .string et, .int .i64 eu, .int .i64 eo] : Array Value).toList = flat (zs ++ [⟨ec, en, ek, em, et, eu, eo⟩]) := by rw [flat_append, flat_one]; rfl
        rw [ec1] at HT7 HT8
        have t9 := HT7.out.put0 0 (.slice (some ⟨g7, 0, none⟩) (nz + 1) c7)
        obtain ⟨k1, k2⟩ := oB_kept HT.out.now t9 hb80 (by rw [HBB.out]; exact HBS.out.2.2.2) hBc
        have hI' : W0.heap.size ≤ (w7.setCell ⟨b8, 0, none⟩ (.slice (some ⟨g7, 0, none⟩) (nz + 1) c7)).heap.size ∧ ∃ V, Turns w (w7.setCell ⟨b8, 0, none⟩ (.slice (some ⟨g7, 0, none⟩) (nz + 1) c7)) Hp.Own.emp (oB b8 V (pre ++ [(A.1 + 1 + (nz : Int), (⟨ec, en, ek, em, et, eu, eo⟩ : En))]).length ((pre ++ [(A.1 + 1 + (nz : Int), (⟨ec, en, ek, em, et, eu, eo⟩ : En))]).map (·.2)) B) := by
          refine ⟨Nat.le_trans hsz t9.chg.size, .slice (some ⟨g7, 0, none⟩) (nz + 1) c7, ?_⟩
          rw [map_snoc, HZS.out, List.length_append, HNZ.out]
          exact HT8.out.put0 0 (.slice (some ⟨g7, 0, none⟩) (nz + 1) c7)
        exact ⟨k1, k2, by rw [List.length_append, HNZ.out]; have := HC2.out; have := HLM.out; simp; omega, hI'⟩
    · have d1 : (op' != A.1 + 1 + (nz : Int)) = true := by simpa using c1
      have HC1 := Lib.hid c1
      clear c1
      gi_wp2_with fail
      exact ⟨keeps_turns (celled_oB bxg_celled) HT'.out.now (bxg_end (Turns.refl HT'.out.now) (.slice none 0 0) false), Or.inl ⟨rfl, upA_off HLT.out (by
        intro e
        have h := (Prod.mk.inj e).1
        rw [HNZ.out] at h
        exact HC1.out h)⟩⟩
  case done =>
    rintro D xs W hD hS ⟨hlim, hsz, V, ht⟩ hK
    have hsub := HACT.out
    subst hsub
    subst hS
    rw [upA_snd, upA_len] at ht
    rw [upA_len] at hlim
    have hga : gaL A limit = A.2 := by
      unfold gaL
      split
      · rfl
      · exact List.take_of_length_le (by omega)
    rw [HBB.out] at ht
    have ht : Turns w W Hp.Own.emp (oB b8 V (gaL A limit).length (gaL A limit) (bxg b4 b5 b6 b7 bC (.pointer (some ⟨g, 0, none⟩)) A.1 limit (.slice none 0 0) false)) := by rw [hga]; exact ht
    obtain ⟨Av, cv, rfl⟩ := row_slice ht.now.2.1.1
    obtain ⟨z8, z8f, z4, z5, z6, z6f, z7, z7f, -, l6, l7, h67⟩ := bxg_see ht.now
    have h76 := h67.symm
    have HTW := Lib.hid ht
    have HKD := Lib.hid hK
    clear ht hK hact HACT hkeep hlim hga z4 z5
    dsimp only []
    go_wp2_with fail
    have hE := bxg_end HTW.out (.slice Av (gaL A limit).length cv) true
    obtain ⟨-, -, -, -, y6, -, y7, -, -, -, -, -⟩ := bxg_see hE.now
    have hK2 := (KeepsOthers.setCell (W.setCell ⟨b6, 0, none⟩ (.slice Av (gaL A limit).length cv)) ⟨b7, 0, none⟩ (.bool true)).same D _ ((KeepsOthers.setCell W ⟨b6, 0, none⟩ (.slice Av (gaL A limit).length cv)).same D _ HKD.out rfl) rfl
    have hc6 := cell_kept y6 (grownBy_putObj' _ D (.deferred none)) (fun r e => by cases e; exact ⟨_, hK2, rfl⟩)
    have hc7 := cell_kept y7 (grownBy_putObj' _ D (.deferred none)) (fun r e => by cases e; exact ⟨_, hK2, rfl⟩)
    refine ⟨by simp, .inl ⟨_, _, rfl, run_takeDeferred hK2, ?_⟩⟩
    refine ⟨.tuple #[.slice Av (gaL A limit).length cv, .bool true], by simp [results, Try.results55, go_sem, hc6, hc7], .slice Av (gaL A limit).length cv, _, rfl, rfl, ?_⟩
    exact turns_keep (celled_row _ _ _ _ _) hw0 (hE.dropL.dropR) (grownBy_putObj' _ D (.deferred none)) (fun r e => by cases e; exact ⟨hD, _, hK2, rfl⟩)
  case stop =>
    rintro D c pre W hD hp hx hK
    rcases hx with hx | ⟨rfl, hlm, hsz, V, ht⟩
    · exact absurd hp hx.2
    have hsub := HACT.out
    subst hsub
    rw [upA_take hp] at ht
    have hga : gaL A limit = A.2.take pre.length := by
      unfold gaL
      rw [if_neg (by omega), ← hlm, Int.toNat_natCast]
    have hpl0 : pre.length = (A.2.take pre.length).length := by rw [← upA_take hp, List.length_map]
    rw [HBB.out] at ht
    have ht : Turns w W Hp.Own.emp (oB b8 V pre.length (gaL A limit) (bxg b4 b5 b6 b7 bC (.pointer (some ⟨g, 0, none⟩)) A.1 limit (.slice none 0 0) false)) := by rw [hga]; exact ht
    have hpl : pre.length = (gaL A limit).length := by rw [hga]; exact hpl0
    obtain ⟨Av, cv, rfl⟩ := row_slice ht.now.2.1.1
    obtain ⟨z8, z8f, z4, z5, z6, z6f, z7, z7f, -, l6, l7, h67⟩ := bxg_see ht.now
    have h76 := h67.symm
    have HTW := Lib.hid ht
    have HKD := Lib.hid hK
    have HPL := Lib.hid hpl
    clear ht hK hact HACT hkeep hlm hga hp hpl hpl0 z4 z5
    refine (wpIn_wide (n := 5)).2 ?_
    dsimp only []
    go_wp2_with fail
    have hE := bxg_end HTW.out (.slice Av pre.length cv) true
    obtain ⟨-, -, -, -, y6, -, y7, -, -, -, -, -⟩ := bxg_see hE.now
    have hK2 := (KeepsOthers.setCell (W.setCell ⟨b6, 0, none⟩ (.slice Av pre.length cv)) ⟨b7, 0, none⟩ (.bool true)).same D _ ((KeepsOthers.setCell W ⟨b6, 0, none⟩ (.slice Av pre.length cv)).same D _ HKD.out rfl) rfl
    have hc6 := cell_kept y6 (grownBy_putObj' _ D (.deferred none)) (fun r e => by cases e; exact ⟨_, hK2, rfl⟩)
    have hc7 := cell_kept y7 (grownBy_putObj' _ D (.deferred none)) (fun r e => by cases e; exact ⟨_, hK2, rfl⟩)
    refine ⟨by simp, .inl ⟨_, _, rfl, run_takeDeferred hK2, ?_⟩⟩
    refine ⟨.tuple #[.slice Av pre.length cv, .bool true], by simp [results, Try.results55, go_sem, hc6, hc7], .slice Av pre.length cv, pre.length, HPL.out, rfl, ?_⟩
    exact turns_keep (celled_row _ _ _ _ _) hw0 (hE.dropL.dropR) (grownBy_putObj' _ D (.deferred none)) (fun r e => by cases e; exact ⟨hD, _, hK2, rfl⟩)
end Go.Proofs.Ytpaaghbmlenlfaa.Ol
