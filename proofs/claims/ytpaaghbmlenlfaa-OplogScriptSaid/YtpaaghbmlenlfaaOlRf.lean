/- The document's log: what each function does to it. -/
import Derived.Test.YtpaaghbmlenlfaaOlCl
import Derived.Test.YtpaaghbmlenlfaaNt
namespace Go.Proofs.Ytpaaghbmlenlfaa.Ol
open Go.RowKit Go.Hp
attribute [local go_sem] min2_lean min_two max2_lean max_two
set_option linter.unusedSimpArgs false
set_option linter.unusedVariables false
set_option maxRecDepth 100000
/-- The document's log. -/
def rO (g : Nat) (m : Int) (b : Int) (v : Value) (l : List En) : Own := Own.both (Own.blk g #[.int .i64 m, .int .i64 b, v] 66) (Own.row 51 7 v l.length (flat l))
theorem rO_cells {g : Nat} {m b : Int} {v : Value} {l : List En} {w : World} (h : (rO g m b v l).holds w) : w.cell? ⟨g, 0, none⟩ = some (.int .i64 m) ∧ w.cell? ⟨g, 1, none⟩ = some (.int .i64 b) ∧ w.cell? ⟨g, 2, none⟩ = some v :=
  ⟨Blk.cell h.1 0, Blk.cell h.1 1, Blk.cell h.1 2⟩
theorem rO_slice {g : Nat} {m b : Int} {v : Value} {l : List En} {w : World} (h : (rO g m b v l).holds w) : ∃ A c, v = .slice A l.length c := row_slice h.2.1
theorem rop_any (g : Nat) (m b : Int) (A : Option Addr) (n c : Nat) (w : World) (c1 : w.cell? ⟨g, 1, none⟩ = some (.int .i64 b)) (c2 : w.cell? ⟨g, 2, none⟩ = some (.slice A n c)) (hb0 : 0 ≤ b) (hb1 : b ≤ 1099511627776) (hn : n ≤ 64) :
    Calls Try.prog 38 #[.pointer (some ⟨g, 0, none⟩)] w fun e w' => e = .returned (.int .i64 (b + n)) ∧ ∃ k, w.drewN k = w' := by
  go_enter Try.func38, Try.ntmps38
  go_wp2
  go_quiet (fail)
  go_wp2
  go_ret
  exact ⟨rfl, _, rfl⟩
theorem rroom_any (g : Nat) (m : Nat) (A : Option Addr) (n c : Nat) (w : World) (c0 : w.cell? ⟨g, 0, none⟩ = some (.int .i64 m)) (c2 : w.cell? ⟨g, 2, none⟩ = some (.slice A n c)) (hm : m ≤ 64) (hn : n ≤ 64) :
    Calls Try.prog 39 #[.pointer (some ⟨g, 0, none⟩)] w fun e w' => e = .returned (.int .i64 ((m : Int) - n)) ∧ ∃ k, w.drewN k = w' := by
  go_enter Try.func39, Try.ntmps39
  go_wp2
  go_quiet (fail)
  go_wp2
  go_ret
  exact ⟨rfl, _, rfl⟩
theorem rnew_no (room : Int) (w : World) (h : room < 1 ∨ 64 < room) :
    Calls Try.prog 28 #[.int .i64 room] w fun r w' => r = .returned (.tuple #[.pointer none, .int .i64 90]) ∧ w = w' := by
  by_cases h1 : room < 1
  · go_enter Try.func28, Try.ntmps28
    go_wp2
    go_ret2
    exact ⟨rfl, rfl⟩
  · have h2 : 64 < room := by omega
    clear h
    go_enter Try.func28, Try.ntmps28
    go_wp2
    go_ret2
    exact ⟨rfl, rfl⟩
theorem rnew_yes (room : Nat) (w : World) (h : 1 ≤ room) (h2 : room ≤ 64) :
    Calls Try.prog 28 #[.int .i64 room] w fun r w' => ∃ g, r = .returned (.tuple #[.pointer (some ⟨g, 0, none⟩), .int .i64 0]) ∧ Turns w w' Own.emp (rO g room 0 (.slice none 0 0) []) := by
  have hd1 : decide ((room : Int) < 1) = false := by simp; omega
  have hd2 : decide (64 < (room : Int)) = false := by simp; omega
  go_enter Try.func28, Try.ntmps28
  go_wp2_with fail
  go_ret2
  exact ⟨_, rfl, Turns.addNil (Turns.blk_new _ _ _) 51 7⟩
theorem radd_full (g : Nat) (m : Nat) (b : Int) (v : Value) (l : List En) (e : En) (w : World) (hs : (rO g m b v l).holds w) (hm : m ≤ 64) (hl : l.length = m) :
    Calls Try.prog 30 #[.pointer (some ⟨g, 0, none⟩), .agg e.cells.toArray] w fun r w' => r = .returned (.int .i64 91) ∧ Chg (fun _ => False) w w' := by
  obtain ⟨c0, c1, c2⟩ := rO_cells hs
  obtain ⟨A, c, rfl⟩ := rO_slice hs
  have hgl : g < w.heap.size := Blk.lt hs.1
  have hd1 : (((m : Int) - (l.length : Int)) == 0) = true := by simp; omega
  have HA : ∀ j, Hid ((w.alloc (.cells e.cells.toArray 51)).cell? ⟨g, j, none⟩ = w.cell? ⟨g, j, none⟩) := fun j => World.cell?_alloc_lt _ _ _ hgl
  have HC0 := Lib.hid ((HA 0).out.trans c0)
  have HC2 := Lib.hid ((HA 2).out.trans c2)
  obtain ⟨n, hn⟩ : ∃ n, l.length = n := ⟨_, rfl⟩
  rw [hn] at hd1 HC2 hl
  clear hs HA c2 hn
  obtain ⟨c, n, k, nm, tx, nu, mo⟩ := e
  show Calls Try.prog 30 #[.pointer (some ⟨g, 0, none⟩), .agg #[.int .i64 c, .int .i64 n, .int .i64 k, .string nm, .string tx, .int .i64 nu, .int .i64 mo]] w _
  go_enter Try.func30, Try.ntmps30
  go_wp2_with (first
    | (go_at_call 39; refine (rroom_any g m A _ _ _ (by exact HC0.out) (by exact HC2.out) hm (by omega)).mono ?_; rintro r w1 ⟨rfl, n1, rfl⟩))
  go_ret
  exact ⟨rfl, ((Chg.refl _ _).alloc _).drewN _⟩
theorem radd_end (g : Nat) (m : Nat) (b : Int) (v : Value) (l : List En) (e : En) (w : World) (hs : (rO g m b v l).holds w) (hm : m ≤ 64) (hl : l.length < m) (hb : b + l.length = 1099511627776) :
    Calls Try.prog 30 #[.pointer (some ⟨g, 0, none⟩), .agg e.cells.toArray] w fun r w' => r = .returned (.int .i64 93) ∧ Chg (fun _ => False) w w' := by
  obtain ⟨c0, c1, c2⟩ := rO_cells hs
  obtain ⟨A, c, rfl⟩ := rO_slice hs
  have hgl : g < w.heap.size := Blk.lt hs.1
  have hd1 : (((m : Int) - (l.length : Int)) == 0) = false := by simp; omega
  have hd2 : ((b + (l.length : Int)) == 1099511627776) = true := by simp; omega
  have HA : ∀ j, Hid ((w.alloc (.cells e.cells.toArray 51)).cell? ⟨g, j, none⟩ = w.cell? ⟨g, j, none⟩) := fun j => World.cell?_alloc_lt _ _ _ hgl
  have HC0 := Lib.hid ((HA 0).out.trans c0)
  have HC1 := Lib.hid ((HA 1).out.trans c1)
  have HC2 := Lib.hid ((HA 2).out.trans c2)
  obtain ⟨n, hn⟩ : ∃ n, l.length = n := ⟨_, rfl⟩
  rw [hn] at hd1 hd2 HC2 hl hb
  clear hs HA c1 c2 hn
  obtain ⟨c, n, k, nm, tx, nu, mo⟩ := e
  show Calls Try.prog 30 #[.pointer (some ⟨g, 0, none⟩), .agg #[.int .i64 c, .int .i64 n, .int .i64 k, .string nm, .string tx, .int .i64 nu, .int .i64 mo]] w _
  go_enter Try.func30, Try.ntmps30
  go_wp2_with (first
    | (go_at_call 39; refine (rroom_any g m A _ _ _ (by exact HC0.out) (by exact HC2.out) hm (by omega)).mono ?_; rintro r w1 ⟨rfl, n1, rfl⟩)
    | (go_at_call 38; refine (rop_any g m b A _ _ _ (by exact HC1.out) (by exact HC2.out) (by omega) (by omega) (by omega)).mono ?_; rintro r w1 ⟨rfl, n2, rfl⟩))
  go_ret
  exact ⟨rfl, ((Chg.refl _ _).alloc _).drewN _⟩
theorem radd_ok (g : Nat) (m : Nat) (b : Int) (v : Value) (l : List En) (e : En) (w : World) (hs : (rO g m b v l).holds w) (hm : m ≤ 64) (hl : l.length < m) (hb0 : 0 ≤ b) (hb : b + l.length < 1099511627776) :
    Calls Try.prog 30 #[.pointer (some ⟨g, 0, none⟩), .agg e.cells.toArray] w fun r w' => ∃ v', r = .returned (.int .i64 0) ∧ Turns w w' (rO g m b v l) (rO g m b v' (l ++ [e])) := by
  obtain ⟨c0, c1, c2⟩ := rO_cells hs
  obtain ⟨A, c, rfl⟩ := rO_slice hs
  obtain ⟨j0, hj0, hja, hjb, hjc⟩ := info_parts Try.info51
  have hgl : g < w.heap.size := Blk.lt hs.1
  have hd1 : (((m : Int) - (l.length : Int)) == 0) = false := by simp; omega
  have hd2 : ((b + (l.length : Int)) == 1099511627776) = false := by simp; omega
  have HA : ∀ j, Hid ((w.alloc (.cells e.cells.toArray 51)).cell? ⟨g, j, none⟩ = w.cell? ⟨g, j, none⟩) := fun j => World.cell?_alloc_lt _ _ _ hgl
  have HC0 := Lib.hid ((HA 0).out.trans c0)
  have HC1 := Lib.hid ((HA 1).out.trans c1)
  have HC2 := Lib.hid ((HA 2).out.trans c2)
  have Hs := Lib.hid hs
  have hone := e.one
  obtain ⟨n, hn⟩ : ∃ n, l.length = n := ⟨_, rfl⟩
  have Hn := Lib.hid hn
  rw [hn] at hd1 hd2 HC2 hl hb
  clear hs HA c1 c2 hn
  obtain ⟨ec, en, k, nm, tx, nu, mo⟩ := e
  show Calls Try.prog 30 #[.pointer (some ⟨g, 0, none⟩), .agg #[.int .i64 ec, .int .i64 en, .int .i64 k, .string nm, .string tx, .int .i64 nu, .int .i64 mo]] w _
  go_enter Try.func30, Try.ntmps30
  go_wp2_with (first
    | (go_at_call 39; refine (rroom_any g m A _ _ _ (by exact HC0.out) (by exact HC2.out) hm (by omega)).mono ?_; rintro r w1 ⟨rfl, n1, rfl⟩)
    | (go_at_call 38; refine (rop_any g m b A _ _ _ (by exact HC1.out) (by exact HC2.out) (by omega) (by omega) (by omega)).mono ?_; rintro r w1 ⟨rfl, n2, rfl⟩))
  obtain ⟨W, hW⟩ : ∃ W, W = (w.alloc (.cells (En.mk ec en k nm tx nu mo).cells.toArray 51)).drewN (n1 + n2) := ⟨_, rfl⟩
  have hW' := hW
  simp only [En.cells] at hW'
  rw [← hW']
  have HT1 : Hid (Turns w W (rO g m b (.slice A l.length c) l) (rO g m b (.slice A l.length c) l)) := by rw [hW]; exact ((Turns.refl Hs.out).alloc _).drewN _
  have HB : Hid (Blk W w.heap.size (En.mk ec en k nm tx nu mo).cells.toArray 51) := by rw [hW]; exact (Blk.new w _ _).drewN _
  clear hW hW' HC0 HC1 HC2 c0
  rw [Hn.out] at HT1
  have d2 : W.cell? ⟨g, 2, none⟩ = some (.slice A n c) := (rO_cells HT1.out.now).2.2
  have hrow : Hid (W.ownsRow 0 51 7 (.slice A n c) n (flat l)) := by have := HT1.out.now.2.1; rw [Hn.out] at this; exact this
  have HO : Hid ((Own.both (Own.blk g #[.int .i64 m, .int .i64 b, .slice A n c] 66) (Own.row 51 7 (.slice A n c) n (flat l))).holds W) := by have := HT1.out.now; unfold rO at this; rw [Hn.out] at this; exact this
  have z0 : W.cell? ⟨w.heap.size, 0, none⟩ = some (.int .i64 ec) := HB.out.cell 0
  have z1 : W.cell? ⟨w.heap.size, 1, none⟩ = some (.int .i64 en) := HB.out.cell 1
  have z2 : W.cell? ⟨w.heap.size, 2, none⟩ = some (.int .i64 k) := HB.out.cell 2
  have z3 : W.cell? ⟨w.heap.size, 3, none⟩ = some (.string nm) := HB.out.cell 3
  have z4 : W.cell? ⟨w.heap.size, 4, none⟩ = some (.string tx) := HB.out.cell 4
  have z5 : W.cell? ⟨w.heap.size, 5, none⟩ = some (.int .i64 nu) := HB.out.cell 5
  have z6 : W.cell? ⟨w.heap.size, 6, none⟩ = some (.int .i64 mo) := HB.out.cell 6
  have HONE := Lib.hid hone
  clear hone
  have hgW : g < W.heap.size := Blk.lt HO.out.1
  have hA2 : ∀ o, (W.alloc o).cell? ⟨g, 2, none⟩ = some (.slice A n c) := fun o => (World.cell?_alloc_lt _ _ _ hgW).trans d2
  have HBY : ∀ (w4 : World) (O' : Own), Turns W w4 (Own.row 51 7 (.slice A n c) n (flat l)) O' → Blk w4 w.heap.size (En.mk ec en k nm tx nu mo).cells.toArray 51 := fun w4 O' ht => Blk.chg HB.out ht.chg (fun hf => by
    have h1 := Hs.out.2.1
    rw [Hn.out] at h1
    have := (Own.row 51 7 (.slice A n c) n (flat l)).lt h1 _ hf
    omega)
  go_region_law (first
      | (rw [alloc_drew]; refine step_app1M rfl (.tmp 15) (.tmp 17) 52 rfl 51 j0 (.agg En.zero.cells.toArray) 7 72 Try.underlying52 hj0 hja hjb hjc rfl (by decide) (.slice A n c) n (flat l) rfl _ _ _ rfl (by first | rfl | simp) (by exact hrow.out) rfl (by exact HONE.out) (by simp only [maxLen]; omega) (by omega) ?_; intro g4 q4 w4 hc4 ht4; have HT4 := Lib.hid (Turns.rightT HO.out ht4.drewl); have HB4 := Lib.hid (HBY w4 _ ht4.drewl); have x0 : w4.cell? ⟨g, 2, none⟩ = some (.slice A n c) := Blk.cell HT4.out.now.1 2; have fx : w4.frozen? ⟨g, 2, none⟩ = false := Blk.frozen HT4.out.now.1 2; have y0 : w4.cell? ⟨w.heap.size, 0, none⟩ = some (.int .i64 ec) := HB4.out.cell 0; have y1 : w4.cell? ⟨w.heap.size, 1, none⟩ = some (.int .i64 en) := HB4.out.cell 1; have y2 : w4.cell? ⟨w.heap.size, 2, none⟩ = some (.int .i64 k) := HB4.out.cell 2; have y3 : w4.cell? ⟨w.heap.size, 3, none⟩ = some (.string nm) := HB4.out.cell 3; have y4 : w4.cell? ⟨w.heap.size, 4, none⟩ = some (.string tx) := HB4.out.cell 4; have y5 : w4.cell? ⟨w.heap.size, 5, none⟩ = some (.int .i64 nu) := HB4.out.cell 5; have y6 : w4.cell? ⟨w.heap.size, 6, none⟩ = some (.int .i64 mo) := HB4.out.cell 6))
  all_goals
    have HF := Lib.hid (HT4.out.put0 2 (.slice (some ⟨g4, 0, none⟩) (n + 1) q4))
    go_wp2_with fail
    go_ret
    obtain rfl := Hn.out
    refine ⟨rfl, .slice (some ⟨g4, 0, none⟩) (l.length + 1) q4, ?_⟩
    refine HT1.out.trans ?_
    unfold rO
    rw [flat_append, flat_one, List.length_append, List.length_singleton]
    exact HF.out
theorem rcut_no (g : Nat) (m : Nat) (b : Int) (v : Value) (l : List En) (op : Int) (w : World) (hs : (rO g m b v l).holds w) (hl : l.length ≤ 64) (hb0 : 0 ≤ b) (hb1 : b ≤ 1099511627776) (hop : op < b ∨ b + l.length < op) :
    Calls Try.prog 33 #[.pointer (some ⟨g, 0, none⟩), .int .i64 op] w fun r w' => r = .returned (.int .i64 92) ∧ Chg (fun _ => False) w w' := by
  obtain ⟨c0, c1, c2⟩ := rO_cells hs
  obtain ⟨A, c, rfl⟩ := rO_slice hs
  obtain ⟨n, hn⟩ : ∃ n, l.length = n := ⟨_, rfl⟩
  rw [hn] at hop c2 hl
  clear hs hn
  by_cases h1 : op < b
  · have hd1 : decide (op < b) = true := by simpa using h1
    go_enter Try.func33, Try.ntmps33
    go_wp2_with fail
    go_ret
    exact ⟨rfl, Chg.refl _ _⟩
  · have hd1 : decide (op < b) = false := by simpa using h1
    have hd2 : decide (b + (n : Int) < op) = true := by simp; omega
    have h2 : b + (n : Int) < op := by omega
    go_enter Try.func33, Try.ntmps33
    go_wp2_with (first
      | (go_at_call 38; refine (rop_any g m b A _ _ _ c1 c2 (by omega) (by omega) (by omega)).mono ?_; rintro r w1 ⟨rfl, n2, rfl⟩))
    go_ret
    exact ⟨rfl, (Chg.refl _ _).drewN _⟩
theorem rclone_any (g : Nat) (m : Nat) (b : Int) (v : Value) (l : List En) (w : World) (hs : (rO g m b v l).holds w) (hl : l.length ≤ 64) :
    Calls Try.prog 31 #[.pointer (some ⟨g, 0, none⟩)] w fun r w' => ∃ g' v', r = .returned (.pointer (some ⟨g', 0, none⟩)) ∧ Turns w w' Own.emp (rO g' m b v' l) := by
  obtain ⟨c0, c1, c2⟩ := rO_cells hs
  obtain ⟨A, c, rfl⟩ := rO_slice hs
  obtain ⟨j0, hj0, hja, hjb, hjc⟩ := info_parts Try.info51
  obtain ⟨n, hn⟩ : ∃ n, l.length = n := ⟨_, rfl⟩
  have hsrc : Hid (Src w (.slice A n c) n 7 (flat l)) := by have := Src.of_own hs.2.1; rw [hn] at this; exact this
  have hgl : g < w.heap.size := Blk.lt hs.1
  rw [hn] at c2 hl
  have Hn := Lib.hid hn
  clear hs hn
  go_enter Try.func31, Try.ntmps31
  go_wp2_with (at_builtin; refine wpList_appS _ rfl (.tmp 4) (.tmp 8) 52 rfl 51 j0 (.agg En.zero.cells.toArray) 7 72 Try.underlying52 hj0 hja hjb hjc rfl (by decide) (.slice none 0 0) 0 [] rfl (World.ownsRow_nil _ _ _ _) (.slice A n c) n (flat l) rfl hsrc.out (flat_one_cell l) (by simp only [maxLen]; omega) (by omega) ?_; intro A4 c4 w4 ht4)
  have HT4 : Hid (Turns w w4 Own.emp (Own.row 51 7 (.slice A4 n c4) n (flat l))) := by
    have h0 : Turns w w Own.emp (Own.row 51 7 (.slice none 0 0) 0 []) := ⟨Chg.refl _ _, World.ownsRow_nil _ _ _ _, fun b hb => by cases hb⟩
    have := h0.trans ht4
    rw [Nat.zero_add, List.nil_append] at this
    exact this
  clear ht4
  have x0 : w4.cell? ⟨g, 0, none⟩ = some (.int .i64 m) := (HT4.out.chg.cell (p := ⟨g, 0, none⟩) hgl id).trans c0
  have x1 : w4.cell? ⟨g, 1, none⟩ = some (.int .i64 b) := (HT4.out.chg.cell (p := ⟨g, 1, none⟩) hgl id).trans c1
  clear c0 c1 c2
  go_region_held3 (fun w' => w'.cell? ⟨g, 0, none⟩ = some (.int .i64 m) ∧ w'.cell? ⟨g, 1, none⟩ = some (.int .i64 b)) (go_keep) (fail)
  all_goals
    go_wp2_with fail
    go_ret
    first
    | (refine ⟨_, rfl, .slice A4 n c4, ?_⟩
       unfold rO
       rw [Hn.out]
       exact HT4.out.pushT (Turns.blk_new _ _ _).drew)
    | (refine ⟨_, .slice A4 n c4, rfl, ?_⟩
       unfold rO
       rw [Hn.out]
       exact HT4.out.pushT (Turns.blk_new _ _ _).drew)
theorem rreset_bad (g : Nat) (m : Nat) (b : Int) (v : Value) (l : List En) (b' : Int) (x : Value) (k : Nat) (A' : Option Addr) (c' : Nat) (w : World) (hs : (rO g m b v l).holds w) (hx : x = .slice A' k c') (hk : k ≤ 1152921504606846976) (hb : b' < 0 ∨ 1099511627776 < b' ∨ 1099511627776 < b' + k) :
    Calls Try.prog 35 #[.pointer (some ⟨g, 0, none⟩), .int .i64 b', x] w fun r w' => r = .returned (.int .i64 92) ∧ w = w' := by
  subst hx
  clear hs
  by_cases h1 : b' < 0
  · go_enter Try.func35, Try.ntmps35
    go_wp2_with fail
    go_ret
    exact ⟨rfl, rfl⟩
  · by_cases h2 : 1099511627776 < b'
    · go_enter Try.func35, Try.ntmps35
      go_wp2_with fail
      go_ret
      exact ⟨rfl, rfl⟩
    · have h3 : 1099511627776 < b' + k := by omega
      have hw : IntKind.i64.wrap (b' + (k : Int)) = b' + (k : Int) := IntWalk.i64_in _ (by omega)
      have hd1 : decide (b' < 0) = false := by simpa using h1
      have hd2 : decide (1099511627776 < b') = false := by simpa using h2
      have hd3 : decide (1099511627776 < b' + (k : Int)) = true := by simpa using h3
      go_enter Try.func35, Try.ntmps35
      go_wp2_with fail
      go_ret
      exact ⟨rfl, rfl⟩
theorem rreset_room (g : Nat) (m : Nat) (b : Int) (v : Value) (l : List En) (b' : Int) (x : Value) (k : Nat) (A' : Option Addr) (c' : Nat) (w : World) (hs : (rO g m b v l).holds w) (hm : m ≤ 64) (hx : x = .slice A' k c') (hk : k ≤ 1152921504606846976) (h1 : ¬ b' < 0) (h2 : ¬ 1099511627776 < b') (h3 : ¬ 1099511627776 < b' + k) (h4 : m < k) :
    Calls Try.prog 35 #[.pointer (some ⟨g, 0, none⟩), .int .i64 b', x] w fun r w' => r = .returned (.int .i64 90) ∧ w = w' := by
  subst hx
  obtain ⟨c0, c1, c2⟩ := rO_cells hs
  clear hs c1 c2
  have hw : IntKind.i64.wrap (b' + (k : Int)) = b' + (k : Int) := IntWalk.i64_in _ (by omega)
  have hd1 : decide (b' < 0) = false := by simpa using h1
  have hd2 : decide (1099511627776 < b') = false := by simpa using h2
  have hd3 : decide (1099511627776 < b' + (k : Int)) = false := by simpa using h3
  have hd4 : decide ((m : Int) < (k : Int)) = true := by simp; omega
  have hd5 : decide (m < k) = true := by simpa using h4
  go_enter Try.func35, Try.ntmps35
  go_wp2_with fail
  go_ret
  exact ⟨rfl, rfl⟩
theorem rreset_ok (g : Nat) (m : Nat) (b : Int) (v : Value) (l : List En) (b' : Int) (x : Value) (ls : List En) (A' : Option Addr) (c' : Nat) (w : World) (hs : (rO g m b v l).holds w) (hm : m ≤ 64) (hx : x = .slice A' ls.length c') (hsrc : Src w x ls.length 7 (flat ls)) (h1 : ¬ b' < 0) (h2 : ¬ 1099511627776 < b') (h3 : ¬ 1099511627776 < b' + ls.length) (h4 : ls.length ≤ m) :
    Calls Try.prog 35 #[.pointer (some ⟨g, 0, none⟩), .int .i64 b', x] w fun r w' => r = .returned (.int .i64 0) ∧ ∃ v', Turns w w' (rO g m b v l) (rO g m b' v' ls) := by
  subst hx
  obtain ⟨c0, c1, c2⟩ := rO_cells hs
  obtain ⟨j0, hj0, hja, hjb, hjc⟩ := info_parts Try.info51
  obtain ⟨k, hk⟩ : ∃ k, ls.length = k := ⟨_, rfl⟩
  have Hk := Lib.hid hk
  have hgl : g < w.heap.size := Blk.lt hs.1
  rw [hk] at hsrc h3 h4 ⊢
  have Hs := Lib.hid hs
  have HSRC := Lib.hid hsrc
  clear hs c1 c2 hk hsrc
  have hw : IntKind.i64.wrap (b' + (k : Int)) = b' + (k : Int) := IntWalk.i64_in _ (by omega)
  have hd1 : decide (b' < 0) = false := by simpa using h1
  have hd2 : decide (1099511627776 < b') = false := by simpa using h2
  have hd3 : decide (1099511627776 < b' + (k : Int)) = false := by simpa using h3
  have hd4 : decide ((m : Int) < (k : Int)) = false := by simp; omega
  have hd5 : decide (m < k) = false := by simp; omega
  go_enter Try.func35, Try.ntmps35
  go_wp2_with (at_builtin; refine wpList_appS _ rfl (.tmp 28) (.tmp 29) 52 rfl 51 j0 (.agg En.zero.cells.toArray) 7 72 Try.underlying52 hj0 hja hjb hjc rfl (by decide) (.slice none 0 0) 0 [] rfl (World.ownsRow_nil _ _ _ _) (.slice A' k c') k (flat ls) rfl HSRC.out (flat_one_cell ls) (by simp only [maxLen]; omega) (by omega) ?_; intro A4 c4 w4 ht4; have h0 : Turns w w Own.emp (Own.row 51 7 (.slice none 0 0) 0 []) := ⟨Chg.refl _ _, World.ownsRow_nil _ _ _ _, fun b hb => by cases hb⟩; have ht5 := h0.trans ht4; rw [Nat.zero_add, List.nil_append] at ht5; have hn := Turns.pushT (Turns.refl Hs.out) ht5; rw [Nat.zero_add]; have f1 : w4.frozen? ⟨g, 1, none⟩ = false := Blk.frozen hn.now.2.1.1 1; have f2 : w4.frozen? ⟨g, 2, none⟩ = false := Blk.frozen hn.now.2.1.1 2; have x1 : w4.cell? ⟨g, 1, none⟩ = some (.int .i64 b) := Blk.cell hn.now.2.1.1 1; have x2 : w4.cell? ⟨g, 2, none⟩ = some v := Blk.cell hn.now.2.1.1 2; have HN := Lib.hid hn; clear ht4 ht5 hn h0)
  have t6 := (((Turns.refl HN.out.now.2.1).put0 1 (.int .i64 b')).put0 2 (.slice A4 k c4)).dropR
  have HF := Lib.hid (HN.out.at1 t6).swap
  clear t6
  go_ret
  refine ⟨rfl, .slice A4 k c4, ?_⟩
  unfold rO
  rw [Hk.out]
  exact HF.out
theorem rcut_ok (g : Nat) (m : Nat) (b : Int) (v : Value) (l : List En) (k : Nat) (op : Int) (w : World) (hs : (rO g m b v l).holds w) (hl : l.length ≤ 64) (hb0 : 0 ≤ b) (hb1 : b + l.length ≤ 1099511627776) (hk : k ≤ l.length) (hop : op = b + k) :
    Calls Try.prog 33 #[.pointer (some ⟨g, 0, none⟩), .int .i64 op] w fun r w' => r = .returned (.int .i64 0) ∧ ∃ v', Turns w w' (rO g m b v l) (rO g m op v' (l.drop k)) := by
  obtain ⟨c0, c1, c2⟩ := rO_cells hs
  obtain ⟨A, c, rfl⟩ := rO_slice hs
  obtain ⟨j0, hj0, hja, hjb, hjc⟩ := info_parts Try.info51
  obtain ⟨n, hn⟩ : ∃ n, l.length = n := ⟨_, rfl⟩
  have hrow := hs.2.1
  have hgl : g < w.heap.size := Blk.lt hs.1
  have Hn := Lib.hid hn
  have Hs := Lib.hid hs
  have hd1 : decide (op < b) = false := by simp; omega
  have hd2 : decide (b + (n : Int) < op) = false := by simp; omega
  have h1 : ¬ op < b := by omega
  have h2 : ¬ b + (n : Int) < op := by omega
  have hwk : IntKind.i64.wrap (k : Int) = (k : Int) := IntWalk.i64_in _ (by omega)
  have hw' : op - b = (k : Int) := by omega
  have hlen : (l.drop k).length = n - k := by simp [hn]
  rw [hn] at c2 hl hk hb1 hrow
  have Hop := Lib.hid hop
  have hcn : n ≤ c := by rcases hrow.2 with ⟨hv, h0⟩ | ⟨g', cap, cur, hv, _, _, hc, _⟩ <;> cases hv <;> omega
  have hbx : b ≤ op := by omega
  have hox : op ≤ 1099511627776 := by omega
  have hk0 : (0 : Int) ≤ (k : Int) := Int.natCast_nonneg _
  have hk1 : (k : Int) ≤ (n : Int) := by omega
  have hfl : (flat (l.drop k)).length = (n - k) * 7 := by rw [flat_len, hlen]
  have hone := flat_one_cell (l.drop k)
  clear hs hop hn
  rcases hrow.2 with ⟨hv, h0⟩ | ⟨g', cap, cur, hv, _, _, _⟩
  · cases hv
    have hk00 : k = 0 := by omega
    subst hk00
    have hd3 : decide (b < op) = false := by simp; omega
    have h3 : ¬ b < op := by omega
    have hw0 : op - b = 0 := by omega
    clear hw' hwk
    have hwk0 : IntKind.i64.wrap 0 = 0 := by decide
    have HSR : Hid (Src w (.slice none 0 0) 0 7 (flat (l.drop 0))) := ⟨by rw [hfl], Or.inl ⟨0, rfl, rfl⟩⟩
    have HONE := Lib.hid hone
    have HLEN := Lib.hid hlen
    clear hrow hfl hone hlen
    go_enter Try.func33, Try.ntmps33
    go_wp2_with (first
      | (go_at_call 38; refine (rop_any g m b _ _ _ _ c1 c2 (by omega) (by omega) (by omega)).mono ?_; rintro r w1 ⟨rfl, n2, rfl⟩))
    go_region_law (first
      | (refine step_copyM _ rfl (.tmp 18) (.tmp 29) 52 rfl 51 j0 (.agg En.zero.cells.toArray) 7 72 Try.underlying52 hj0 hja hjb hjc rfl (by decide) rfl (.slice none 0 0) (0) (flat (l.drop _)) rfl (by exact HSR.out) (by exact HONE.out) (by simp only [maxLen]; omega) (by omega) ?_; intro A4 c4 w4 ht4; have HN := Lib.hid (Turns.pushT (Turns.refl Hs.out) ht4.drewNl); have f1 : w4.frozen? ⟨g, 1, none⟩ = false := Blk.frozen HN.out.now.2.1.1 1; have f2 : w4.frozen? ⟨g, 2, none⟩ = false := Blk.frozen HN.out.now.2.1.1 2; have x1 : w4.cell? ⟨g, 1, none⟩ = some (.int .i64 b) := Blk.cell HN.out.now.2.1.1 1; have x2 : w4.cell? ⟨g, 2, none⟩ = some _ := Blk.cell HN.out.now.2.1.1 2; clear ht4))
    all_goals
      try generalize (.slice none 0 0 : Value) = vv at *
      have HF := Lib.hid (HN.out.at1 (((Turns.refl HN.out.now.2.1).put0 1 (.int .i64 op)).put0 2 (.slice A4 (0) c4)).dropR).swap
      go_wp2_with fail
      go_ret
      refine ⟨rfl, .slice A4 (0) c4, ?_⟩
      unfold rO
      rw [show (l.drop _).length = 0 from HLEN.out]
      exact HF.out
  · cases hv
    have HSR : Hid (Src w (.slice (if c = k then some ⟨g', 0, none⟩ else some ⟨g', k * 7, none⟩) (n - k) (c - k)) (n - k) 7 (flat (l.drop k))) := by
      by_cases hck : c = k
      · rw [if_pos hck]
        have hnil : flat (l.drop k) = [] := List.eq_nil_of_length_eq_zero (by rw [hfl]; omega)
        rw [hnil]
        exact ⟨by simp; omega, Or.inr ⟨_, _, rfl, fun j u hu => by simp at hu⟩⟩
      · rw [if_neg hck]
        refine ⟨hfl, Or.inr ⟨_, _, rfl, fun j u hj => ?_⟩⟩
        have hsrc := (Src.of_own hrow).2
        rcases hsrc with ⟨_, hx, _⟩ | ⟨ad, c2, hx, hc2⟩
        · cases hx
        · cases hx
          have ha : ∀ o, (⟨g', 0, none⟩ : Addr).add o = ⟨g', o, none⟩ := fun o => by unfold Addr.add; split <;> simp_all
          have hb' : (⟨g', k * 7, none⟩ : Addr).add j = ⟨g', k * 7 + j, none⟩ := by unfold Addr.add; split <;> simp_all
          rw [hb', ← ha]
          refine hc2 _ _ ?_
          have hsp : flat l = flat (l.take k) ++ flat (l.drop k) := by rw [← flat_append, List.take_append_drop]
          rw [hsp, List.getElem?_append_right (by rw [flat_len]; simp; omega), flat_len]
          rw [show k * 7 + j - (l.take k).length * 7 = j by rw [List.length_take, Nat.min_eq_left (by have := Hn.out; omega)]; omega]
          exact hj
    have HONE := Lib.hid hone
    have HLEN := Lib.hid hlen
    clear hrow hfl hone hlen
    go_enter Try.func33, Try.ntmps33
    go_wp2_with (first
      | (go_at_call 38; refine (rop_any g m b _ _ _ _ c1 c2 (by omega) (by omega) (by omega)).mono ?_; rintro r w1 ⟨rfl, n2, rfl⟩))
    go_region_law (first
      | (refine step_copyM _ rfl (.tmp 18) (.tmp 29) 52 rfl 51 j0 (.agg En.zero.cells.toArray) 7 72 Try.underlying52 hj0 hja hjb hjc rfl (by decide) rfl (.slice (if c = k then some ⟨g', 0, none⟩ else some ⟨g', k * 7, none⟩) (n - k) (c - k)) (n - k) (flat (l.drop _)) rfl (by exact HSR.out) (by exact HONE.out) (by simp only [maxLen]; omega) (by omega) ?_; intro A4 c4 w4 ht4; have HN := Lib.hid (Turns.pushT (Turns.refl Hs.out) ht4.drewNl); have f1 : w4.frozen? ⟨g, 1, none⟩ = false := Blk.frozen HN.out.now.2.1.1 1; have f2 : w4.frozen? ⟨g, 2, none⟩ = false := Blk.frozen HN.out.now.2.1.1 2; have x1 : w4.cell? ⟨g, 1, none⟩ = some (.int .i64 b) := Blk.cell HN.out.now.2.1.1 1; have x2 : w4.cell? ⟨g, 2, none⟩ = some _ := Blk.cell HN.out.now.2.1.1 2; clear ht4))
    all_goals
      try generalize (.slice (if c = k then some ⟨g', 0, none⟩ else some ⟨g', k * 7, none⟩) (n - k) (c - k) : Value) = vv at *
      have HF := Lib.hid (HN.out.at1 (((Turns.refl HN.out.now.2.1).put0 1 (.int .i64 op)).put0 2 (.slice A4 (n - k) c4)).dropR).swap
      go_wp2_with fail
      go_ret
      refine ⟨rfl, .slice A4 (n - k) c4, ?_⟩
      unfold rO
      rw [show (l.drop _).length = n - k from HLEN.out]
      exact HF.out
end Go.Proofs.Ytpaaghbmlenlfaa.Ol
