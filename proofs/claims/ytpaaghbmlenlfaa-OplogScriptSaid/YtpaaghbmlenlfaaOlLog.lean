/- The log of package oplog: what each function does to it. -/
import Derived.Test.YtpaaghbmlenlfaaProg
import Derived.Test.YtpaaghbmlenlfaaOlEn
import Derived.WalkKit
import Derived.ProofKit
import Derived.BigQuiet
import Derived.Deep.QuietTactic
import Derived.Deep.RegionHeld3
import Derived.StillTailTactics
import Derived.Lib.Hide
namespace Go.Proofs.Ytpaaghbmlenlfaa.Ol
open Go.RowKit Go.Hp
attribute [local go_sem] min2_lean min_two max2_lean max_two
set_option linter.unusedSimpArgs false
set_option linter.unusedVariables false
set_option maxRecDepth 100000

theorem size51 : (Try.prog.info? 51).map (·.size) = some 7 := by kernel_rfl

/-- The cells of a log. -/
theorem LogS.cells {s : LogS} {w : World} (h : s.own.holds w) : w.cell? ⟨s.g, 0, none⟩ = some (.int .i64 s.base) ∧ w.cell? ⟨s.g, 1, none⟩ = some (.slice (some ⟨s.pb, 0, none⟩) s.es.length s.es.length) ∧
    w.cell? ⟨s.g, 2, none⟩ = some (.int .i64 s.first) ∧ w.cell? ⟨s.g, 3, none⟩ = some (.int .i64 s.many) := by
  have hb := h.1
  exact ⟨Blk.cell hb 0, Blk.cell hb 1, Blk.cell hb 2, Blk.cell hb 3⟩

theorem at_any (g o pb room cap first k : Nat) (w : World) (h1 : w.cell? ⟨g, o, none⟩ = some (.slice (some ⟨pb, 0, none⟩) room cap)) (h2 : w.cell? ⟨g, o + 1, none⟩ = some (.int .i64 first)) (hr : 1 ≤ room) (hr2 : room ≤ 64)
    (hf : first ≤ 64) (hk : k ≤ 64) :
    Calls Try.prog 61 #[.pointer (some ⟨g, o, none⟩), .int .i64 k] w fun e w' => e = .returned (.int .i64 ((first + k) % room : Nat)) ∧ ∃ n, w.drewN n = w' := by
  have hb : ((room : Int) == 0) = false := by simp; omega
  have HE := Lib.hid (show (((first + k) % room : Nat) : Int) = ((first : Int) + k) % room by push_cast; rfl)
  go_enter Try.func61, Try.ntmps61
  go_wp2
  go_quiet (fail)
  go_wp2
  go_ret
  exact ⟨by rw [HE.out]; rfl, _, rfl⟩
theorem op_any (g : Nat) (b m : Int) (w : World) (h0 : w.cell? ⟨g, 0, none⟩ = some (.int .i64 b)) (h3 : w.cell? ⟨g, 3, none⟩ = some (.int .i64 m)) (hb0 : 0 ≤ b) (hb1 : b ≤ 1099511627776) (hm0 : 0 ≤ m) (hm1 : m ≤ 64) :
    Calls Try.prog 25 #[.pointer (some ⟨g, 0, none⟩)] w fun e w' => e = .returned (.int .i64 (b + m)) ∧ ∃ n, w.drewN n = w' := by
  go_enter Try.func25, Try.ntmps25
  go_wp2
  go_quiet (fail)
  go_wp2
  go_ret
  exact ⟨rfl, _, rfl⟩
theorem room_any (g pb room cap : Nat) (m : Int) (w : World) (h0 : w.cell? ⟨g, 1, none⟩ = some (.slice (some ⟨pb, 0, none⟩) room cap)) (h3 : w.cell? ⟨g, 3, none⟩ = some (.int .i64 m)) (hr : room ≤ 64) (hm0 : 0 ≤ m) (hm1 : m ≤ 64) :
    Calls Try.prog 26 #[.pointer (some ⟨g, 0, none⟩)] w fun e w' => e = .returned (.int .i64 (room - m)) ∧ ∃ n, w.drewN n = w' := by
  go_enter Try.func26, Try.ntmps26
  go_wp2
  go_quiet (fail)
  go_wp2
  go_ret
  exact ⟨rfl, _, rfl⟩
theorem base_any (g : Nat) (b : Int) (w : World) (h0 : w.cell? ⟨g, 0, none⟩ = some (.int .i64 b)) :
    Calls Try.prog 24 #[.pointer (some ⟨g, 0, none⟩)] w fun e w' => e = .returned (.int .i64 b) ∧ w = w' := by
  go_enter Try.func24, Try.ntmps24
  go_wp2
  go_ret
  exact ⟨rfl, rfl⟩
theorem there_of_blk {w : World} {b : Nat} {cs : Array Value} {T : TypeId} (h : Blk w b cs T) (o n : Nat) (hn : o + n ≤ cs.size) : w.there b o n := fun j hj => by
  rw [h.cell, h.frozen]
  refine ⟨?_, rfl⟩
  rw [Array.getElem?_eq_getElem (by omega)]; rfl
theorem range_of_blk {w : World} {b : Nat} {l : List En} {T : TypeId} (h : Blk w b (flat l).toArray T) {i : Nat} {e : En} (hi : l[i]? = some e) : w.rangeAt b (i * 7) e.cells := fun j v hv => by
  rw [h.cell, List.getElem?_toArray]
  exact flat_get l i e hi j v hv
theorem range_box {w : World} {b : Nat} {e : En} {T : TypeId} (h : Blk w b e.cells.toArray T) : w.rangeAt b 0 e.cells := fun j v hv => by
  rw [h.cell, List.getElem?_toArray, Nat.zero_add, hv]
set_option maxHeartbeats 1000000 in
theorem radd_any (s : LogS) (e : En) (w : World) (hs : s.own.holds w) (hok : s.ok) (hm : s.many < s.es.length) :
    Calls Try.prog 44 #[.pointer (some ⟨s.g, 1, none⟩), .agg e.cells.toArray] w fun r w' => r = .returned (.tuple #[]) ∧ Turns w w' s.own (s.add e).own := by
  obtain ⟨c0, c1, c2, c3⟩ := LogS.cells hs
  have l1 := hok.r1
  have l2 := hok.r64
  have l3 := hok.f
  obtain ⟨ix, hix⟩ : ∃ ix, ix = (s.first + s.many) % s.es.length := ⟨_, rfl⟩
  have hil : ix < s.es.length := by rw [hix]; exact Nat.mod_lt _ (by omega)
  have Hix := Lib.hid hix
  clear hix
  have hgl : s.g < w.heap.size := Blk.lt hs.1
  have hpl : s.pb < w.heap.size := Blk.lt hs.2.1
  have hgp : s.g ≠ s.pb := fun e => hs.2.2 s.g rfl e
  have hpz : s.pb ≠ w.heap.size := by omega
  have hpg : s.pb ≠ s.g := Ne.symm hgp
  have hgz : s.g ≠ w.heap.size := by omega
  have hzp : w.heap.size ≠ s.pb := by omega
  have Hs := Lib.hid hs
  have Hok := Lib.hid hok
  clear hs hok
  have HTH : Hid ((w.alloc (.cells e.cells.toArray 51)).there s.pb (ix * 7) 7) := there_of_blk (Blk.alloc Hs.out.2.1 _) _ _ (by rw [List.size_toArray, flat_len]; omega)
  have H1 := Lib.hid (all_oneCell_toArray e.one)
  have hi0 : (0 : Int) ≤ (ix : Int) := Int.natCast_nonneg _
  have hi1 : (ix : Int) < (s.es.length : Int) := by omega
  obtain ⟨c, n, k, nm, tx, nu, mo⟩ := e
  have HB : Hid (Blk (w.alloc (.cells (En.mk c n k nm tx nu mo).cells.toArray 51)) w.heap.size (En.mk c n k nm tx nu mo).cells.toArray 51) := Blk.new _ _ _
  have HC1 := Lib.hid ((World.cell?_alloc_lt w (.cells (En.mk c n k nm tx nu mo).cells.toArray 51) ⟨s.g, 1, none⟩ hgl).trans c1)
  have HC2 := Lib.hid ((World.cell?_alloc_lt w (.cells (En.mk c n k nm tx nu mo).cells.toArray 51) ⟨s.g, 2, none⟩ hgl).trans c2)
  obtain ⟨x, hx⟩ : ∃ x, s.es[ix]? = some x := ⟨s.es[ix], List.getElem?_eq_getElem hil⟩
  have hrx := range_of_blk Hs.out.2.1 hx
  have p0 : w.cell? ⟨s.pb, ix * 7, none⟩ = some (.int .i64 x.c) := hrx 0 _ rfl
  have p1 : w.cell? ⟨s.pb, ix * 7 + 1, none⟩ = some (.int .i64 x.n) := hrx 1 _ rfl
  have p2 : w.cell? ⟨s.pb, ix * 7 + 2, none⟩ = some (.int .i64 x.k) := hrx 2 _ rfl
  have p3 : w.cell? ⟨s.pb, ix * 7 + 3, none⟩ = some (.string x.nm) := hrx 3 _ rfl
  have p4 : w.cell? ⟨s.pb, ix * 7 + 4, none⟩ = some (.string x.tx) := hrx 4 _ rfl
  have p5 : w.cell? ⟨s.pb, ix * 7 + 5, none⟩ = some (.int .i64 x.nu) := hrx 5 _ rfl
  have p6 : w.cell? ⟨s.pb, ix * 7 + 6, none⟩ = some (.int .i64 x.mo) := hrx 6 _ rfl
  have f0 := Blk.frozen Hs.out.2.1 (ix * 7)
  have f1 := Blk.frozen Hs.out.2.1 (ix * 7 + 1)
  have f2 := Blk.frozen Hs.out.2.1 (ix * 7 + 2)
  have f3 := Blk.frozen Hs.out.2.1 (ix * 7 + 3)
  have f4 := Blk.frozen Hs.out.2.1 (ix * 7 + 4)
  have f5 := Blk.frozen Hs.out.2.1 (ix * 7 + 5)
  have f6 := Blk.frozen Hs.out.2.1 (ix * 7 + 6)
  have f13 := Blk.frozen Hs.out.1 3
  clear hrx hx
  show Calls Try.prog 44 #[.pointer (some ⟨s.g, 1, none⟩), .agg #[.int .i64 c, .int .i64 n, .int .i64 k, .string nm, .string tx, .int .i64 nu, .int .i64 mo]] w _
  go_enter Try.func44, Try.ntmps44
  go_wp2_with fail
  go_region_held3 (fun w' => w'.cell? ⟨s.g, 1, none⟩ = some (.slice (some ⟨s.pb, 0, none⟩) s.es.length s.es.length) ∧ w'.cell? ⟨s.g, 1 + 1, none⟩ = some (.int .i64 s.first) ∧ w'.cell? ⟨s.g, 1 + 2, none⟩ = some (.int .i64 s.many) ∧ w'.cell? ⟨w.heap.size, 0, none⟩ = some (.int .i64 c) ∧ w'.cell? ⟨w.heap.size, 1, none⟩ = some (.int .i64 n) ∧ w'.cell? ⟨w.heap.size, 2, none⟩ = some (.int .i64 k) ∧ w'.cell? ⟨w.heap.size, 3, none⟩ = some (.string nm) ∧ w'.cell? ⟨w.heap.size, 4, none⟩ = some (.string tx) ∧ w'.cell? ⟨w.heap.size, 5, none⟩ = some (.int .i64 nu) ∧ w'.cell? ⟨w.heap.size, 6, none⟩ = some (.int .i64 mo))
    (go_keep)
    (first
      | (go_at_call 61; refine (at_any s.g 1 s.pb s.es.length s.es.length s.first s.many _ (by exact HC1.out) (by exact HC2.out) l1 l2 (by omega) (by omega)).mono ?_; rw [← Hix.out]; rintro r w1 ⟨rfl, nd, rfl⟩))
  go_wp2
  go_end0
  exact ⟨rfl, LogS.add_turns (((Turns.refl Hs.out).alloc _).drewN _) Hok.out (En.mk c n k nm tx nu mo) ix Hix.out⟩
theorem add_any (s : LogS) (e : En) (w : World) (hs : s.own.holds w) (hok : s.ok) (hm : s.many < s.es.length) (hb : s.base + s.many < 1099511627776) :
    Calls Try.prog 22 #[.pointer (some ⟨s.g, 0, none⟩), .agg e.cells.toArray] w fun r w' => r = .returned (.int .i64 0) ∧ Turns w w' s.own (s.add e).own := by
  obtain ⟨c0, c1, c2, c3⟩ := LogS.cells hs
  have l2 := hok.r64
  have lb0 := hok.b0
  have lb1 := hok.b1
  have hgl : s.g < w.heap.size := Blk.lt hs.1
  have hd1 : (((s.es.length : Int) - (s.many : Int)) == 0) = false := by simp; omega
  have hd2 : ((s.base + (s.many : Int)) == 1099511627776) = false := by simp; omega
  have HA : ∀ j, Hid ((w.alloc (.cells e.cells.toArray 51)).cell? ⟨s.g, j, none⟩ = w.cell? ⟨s.g, j, none⟩) := fun j => World.cell?_alloc_lt _ _ _ hgl
  have HC0 := Lib.hid ((HA 0).out.trans c0)
  have HC1 := Lib.hid ((HA 1).out.trans c1)
  have HC3 := Lib.hid ((HA 3).out.trans c3)
  have Hs := Lib.hid hs
  have Hok := Lib.hid hok
  clear hs hok HA
  obtain ⟨c, n, k, nm, tx, nu, mo⟩ := e
  have HS1 := Lib.hid (s.own.chg Hs.out ((Chg.refl (fun _ => False) w).alloc (.cells (En.mk c n k nm tx nu mo).cells.toArray 51)) (fun _ _ h => h))
  show Calls Try.prog 22 #[.pointer (some ⟨s.g, 0, none⟩), .agg #[.int .i64 c, .int .i64 n, .int .i64 k, .string nm, .string tx, .int .i64 nu, .int .i64 mo]] w _
  go_enter Try.func22, Try.ntmps22
  go_wp2_with (first
    | (go_at_call 26; refine (room_any s.g s.pb s.es.length s.es.length s.many _ (by exact HC1.out) (by exact HC3.out) l2 (by omega) (by omega)).mono ?_; rintro r w1 ⟨rfl, n1, rfl⟩)
    | (go_at_call 25; refine (op_any s.g s.base s.many _ (by exact HC0.out) (by exact HC3.out) lb0 (by omega) (by omega) (by omega)).mono ?_; rintro r w1 ⟨rfl, n2, rfl⟩))
  obtain ⟨W, hW⟩ : ∃ W, W = (w.alloc (.cells #[.int .i64 c, .int .i64 n, .int .i64 k, .string nm, .string tx, .int .i64 nu, .int .i64 mo] 51)).drewN (n1 + n2) := ⟨_, rfl⟩
  rw [← hW]
  have HT : Hid (Turns w W s.own s.own) := by rw [hW]; exact ((Turns.refl Hs.out).alloc _).drewN _
  have hB : Blk W w.heap.size #[.int .i64 c, .int .i64 n, .int .i64 k, .string nm, .string tx, .int .i64 nu, .int .i64 mo] 51 := by rw [hW]; exact (Blk.new w _ _).drewN _
  clear hW
  have b0 := hB.cell 0
  have b1 := hB.cell 1
  have b2 := hB.cell 2
  have b3 := hB.cell 3
  have b4 := hB.cell 4
  have b5 := hB.cell 5
  have b6 := hB.cell 6
  simp only [List.getElem?_toArray, List.getElem?_cons_succ, List.getElem?_cons_zero] at b0 b1 b2 b3 b4 b5 b6
  clear hB
  go_still_tail 4, (by kernel_rfl)
  change wpList _ _ _ _ _ (World.drew _)
  go_wp2_with (go_at_call 44; refine (radd_any s (En.mk c n k nm tx nu mo) _ (by exact HT.out.now) Hok.out hm).mono ?_; rintro r w2 ⟨rfl, ht⟩)
  go_ret
  exact ⟨rfl, HT.out.drew.trans ht⟩
theorem add_full (s : LogS) (e : En) (w : World) (hs : s.own.holds w) (hok : s.ok) (hm : s.many = s.es.length) :
    Calls Try.prog 22 #[.pointer (some ⟨s.g, 0, none⟩), .agg e.cells.toArray] w fun r w' => r = .returned (.int .i64 91) ∧ Chg (fun _ => False) w w' := by
  obtain ⟨c0, c1, c2, c3⟩ := LogS.cells hs
  have l2 := hok.r64
  have hgl : s.g < w.heap.size := Blk.lt hs.1
  have hd1 : (((s.es.length : Int) - (s.many : Int)) == 0) = true := by simp; omega
  have HA : ∀ j, Hid ((w.alloc (.cells e.cells.toArray 51)).cell? ⟨s.g, j, none⟩ = w.cell? ⟨s.g, j, none⟩) := fun j => World.cell?_alloc_lt _ _ _ hgl
  have HC1 := Lib.hid ((HA 1).out.trans c1)
  have HC3 := Lib.hid ((HA 3).out.trans c3)
  clear hs hok HA
  obtain ⟨c, n, k, nm, tx, nu, mo⟩ := e
  have Hm := Lib.hid hm
  clear hm
  show Calls Try.prog 22 #[.pointer (some ⟨s.g, 0, none⟩), .agg #[.int .i64 c, .int .i64 n, .int .i64 k, .string nm, .string tx, .int .i64 nu, .int .i64 mo]] w _
  go_enter Try.func22, Try.ntmps22
  go_wp2_with (first
    | (go_at_call 26; refine (room_any s.g s.pb s.es.length s.es.length s.many _ (by exact HC1.out) (by exact HC3.out) l2 (by omega) (by rw [Hm.out]; omega)).mono ?_; rintro r w1 ⟨rfl, n1, rfl⟩))
  go_ret
  exact ⟨rfl, ((Chg.refl _ _).alloc _).drewN _⟩
theorem drop_any2 (s : LogS) (k : Nat) (w : World) (hs : s.own.holds w) (l1 : 1 ≤ s.es.length) (l2 : s.es.length ≤ 64) (l3 : s.first < s.es.length) (l4 : s.many ≤ s.es.length) (hk : k ≤ s.many) :
    Calls Try.prog 45 #[.pointer (some ⟨s.g, 1, none⟩), .int .i64 k] w fun r w' => r = .returned (.tuple #[]) ∧ Turns w w' s.own (s.drop k).own := by
  obtain ⟨c0, c1, c2, c3⟩ := LogS.cells hs
  have f2 := Blk.frozen hs.1 2
  have f3 := Blk.frozen hs.1 3
  have Hs := Lib.hid hs
  clear hs
  go_enter Try.func45, Try.ntmps45
  go_wp2_with (go_at_call 61; refine (at_any s.g 1 s.pb s.es.length s.es.length s.first k _ c1 c2 l1 l2 (by omega) (by omega)).mono ?_; rintro r w1 ⟨rfl, n1, rfl⟩)
  go_end0
  exact ⟨rfl, LogS.drop_turns ((Turns.refl Hs.out).drewN _) k hk⟩
theorem drop_any (s : LogS) (k : Nat) (w : World) (hs : s.own.holds w) (hok : s.ok) (hk : k ≤ s.many) :
    Calls Try.prog 45 #[.pointer (some ⟨s.g, 1, none⟩), .int .i64 k] w fun r w' => r = .returned (.tuple #[]) ∧ Turns w w' s.own (s.drop k).own := drop_any2 s k w hs hok.r1 hok.r64 hok.f hok.m hk
theorem cut_any (s : LogS) (k : Nat) (op : Int) (w : World) (hs : s.own.holds w) (hok : s.ok) (hk : k ≤ s.many) (hop : op = s.base + k) :
    Calls Try.prog 23 #[.pointer (some ⟨s.g, 0, none⟩), .int .i64 op] w fun r w' => r = .returned (.int .i64 0) ∧ Turns w w' s.own ({ s.drop k with base := op } : LogS).own := by
  obtain ⟨c0, c1, c2, c3⟩ := LogS.cells hs
  have l2 := hok.r64
  have l4 := hok.m
  have lb0 := hok.b0
  have lb1 := hok.b1
  have f0 := Blk.frozen hs.1 0
  have Hs := Lib.hid hs
  have Hok := Lib.hid hok
  have HT : Hid (Turns w w s.own s.own) := Turns.refl hs
  clear hs hok
  have ho1 : s.base ≤ op := by omega
  have ho2 : op ≤ s.base + s.many := by omega
  have hd1 : decide (op < s.base) = false := by simp; omega
  have hd2 : decide (s.base + (s.many : Int) < op) = false := by simp; omega
  have Hop := Lib.hid (show op - s.base = (k : Int) by omega)
  clear hop
  go_enter Try.func23, Try.ntmps23
  go_wp2_with (first
    | (go_at_call 25; refine (op_any s.g s.base s.many _ c0 c3 lb0 (by omega) (by omega) (by omega)).mono ?_; rintro r w1 ⟨rfl, n2, rfl⟩))
  obtain ⟨W, hW⟩ : ∃ W, W = w.drewN n2 := ⟨_, rfl⟩
  rw [← hW]
  have HT2 : Hid (Turns w W s.own s.own) := by rw [hW]; exact HT.out.drewN _
  clear hW
  obtain ⟨d0, d1, d2, d3⟩ := LogS.cells HT2.out.now
  go_still_tail 9, (by kernel_rfl)
  change wpList _ _ _ _ _ (World.drew _)
  go_wp2_with fail
  rw [Hop.out]
  refine (drop_any s k _ (by exact HT2.out.drew.now) Hok.out hk).mono ?_
  rintro r w2 ⟨rfl, ht⟩
  have HT3 := Lib.hid (LogS.base_turns ht op)
  have HT4 := Lib.hid (HT2.out.drew.trans HT3.out)
  clear HT3
  have e0 : w2.cell? ⟨s.g, 0, none⟩ = some (.int .i64 s.base) := (LogS.cells ht.now).1
  have f0' : w2.frozen? ⟨s.g, 0, none⟩ = false := Blk.frozen ht.now.1 0
  clear ht
  go_wp2_with fail
  go_ret
  exact ⟨rfl, HT4.out⟩
theorem has_any (g : Nat) (b m op : Int) (w : World) (h0 : w.cell? ⟨g, 0, none⟩ = some (.int .i64 b)) (h3 : w.cell? ⟨g, 3, none⟩ = some (.int .i64 m)) (hb0 : 0 ≤ b) (hb1 : b ≤ 1099511627776) (hm0 : 0 ≤ m) (hm1 : m ≤ 64) :
    Calls Try.prog 46 #[.pointer (some ⟨g, 0, none⟩), .int .i64 op] w fun e w' => e = .returned (.bool (decide (b < op) && decide (op ≤ b + m))) ∧ ∃ n, w.drewN n = w' := by
  by_cases h : b < op
  · have hd : decide (b < op) = true := by simpa using h
    go_enter Try.func46, Try.ntmps46
    go_wp2_with (first
      | (go_at_call 25; refine (op_any g b m _ h0 h3 hb0 (by omega) (by omega) (by omega)).mono ?_; rintro r w1 ⟨rfl, n2, rfl⟩))
    go_ret
    exact ⟨by rw [hd]; rfl, _, rfl⟩
  · have hd : decide (b < op) = false := by simpa using h
    go_enter Try.func46, Try.ntmps46
    go_wp2_with fail
    go_ret
    exact ⟨rfl, 0, rfl⟩
set_option maxHeartbeats 1000000 in
theorem rget_any (s : LogS) (k : Nat) (e : En) (w : World) (hs : s.own.holds w) (hok : s.ok) (hk : k < s.es.length) (he : s.es[(s.first + k) % s.es.length]? = some e) :
    Calls Try.prog 47 #[.pointer (some ⟨s.g, 1, none⟩), .int .i64 k] w fun r w' => r = .returned (.agg e.cells.toArray) ∧ Chg (fun _ => False) w w' := by
  obtain ⟨c0, c1, c2, c3⟩ := LogS.cells hs
  have l1 := hok.r1
  have l2 := hok.r64
  have l3 := hok.f
  have l4 := hok.m
  obtain ⟨ix, hix⟩ : ∃ ix, ix = (s.first + k) % s.es.length := ⟨_, rfl⟩
  have hil : ix < s.es.length := by rw [hix]; exact Nat.mod_lt _ (by omega)
  have HR := Lib.hid (range_of_blk hs.2.1 (hix ▸ he))
  have Hix := Lib.hid hix
  clear hix he
  obtain ⟨c, n, kk, nm, tx, nu, mo⟩ := e
  have p0 : w.cell? ⟨s.pb, ix * 7, none⟩ = some (.int .i64 c) := HR.out 0 _ rfl
  have p1 : w.cell? ⟨s.pb, ix * 7 + 1, none⟩ = some (.int .i64 n) := HR.out 1 _ rfl
  have p2 : w.cell? ⟨s.pb, ix * 7 + 2, none⟩ = some (.int .i64 kk) := HR.out 2 _ rfl
  have p3 : w.cell? ⟨s.pb, ix * 7 + 3, none⟩ = some (.string nm) := HR.out 3 _ rfl
  have p4 : w.cell? ⟨s.pb, ix * 7 + 4, none⟩ = some (.string tx) := HR.out 4 _ rfl
  have p5 : w.cell? ⟨s.pb, ix * 7 + 5, none⟩ = some (.int .i64 nu) := HR.out 5 _ rfl
  have p6 : w.cell? ⟨s.pb, ix * 7 + 6, none⟩ = some (.int .i64 mo) := HR.out 6 _ rfl
  have hi0 : (0 : Int) ≤ (ix : Int) := Int.natCast_nonneg _
  have hi1 : (ix : Int) < (s.es.length : Int) := by omega
  have hpl : s.pb < w.heap.size := Blk.lt hs.2.1
  have hgl : s.g < w.heap.size := Blk.lt hs.1
  have hpz : s.pb ≠ w.heap.size := by omega
  have hzp : w.heap.size ≠ s.pb := by omega
  have hgz : s.g ≠ w.heap.size := by omega
  have hzg : w.heap.size ≠ s.g := by omega
  clear HR hs hok
  go_enter Try.func47, Try.ntmps47
  go_wp2_with fail
  go_region_held3 (fun w' => w'.cell? ⟨s.g, 1, none⟩ = some (.slice (some ⟨s.pb, 0, none⟩) s.es.length s.es.length) ∧ w'.cell? ⟨s.g, 1 + 1, none⟩ = some (.int .i64 s.first) ∧ w'.cell? ⟨s.pb, ix * 7, none⟩ = some (.int .i64 c) ∧ w'.cell? ⟨s.pb, ix * 7 + 1, none⟩ = some (.int .i64 n) ∧ w'.cell? ⟨s.pb, ix * 7 + 2, none⟩ = some (.int .i64 kk) ∧ w'.cell? ⟨s.pb, ix * 7 + 3, none⟩ = some (.string nm) ∧ w'.cell? ⟨s.pb, ix * 7 + 4, none⟩ = some (.string tx) ∧ w'.cell? ⟨s.pb, ix * 7 + 5, none⟩ = some (.int .i64 nu) ∧ w'.cell? ⟨s.pb, ix * 7 + 6, none⟩ = some (.int .i64 mo))
    (go_keep)
    (first
      | (go_at_call 61; refine (at_any s.g 1 s.pb s.es.length s.es.length s.first k _ (by simp [*]) (by simp [*]) l1 l2 (by omega) (by omega)).mono ?_; rw [← Hix.out]; rintro r w1 ⟨rfl, nd, rfl⟩))
  go_wp2
  refine bodyPost_ret (v := .agg (En.mk c n kk nm tx nu mo).cells.toArray) (by simp [results, Try.results47, go_sem, En.cells]) rfl ⟨rfl, ?_⟩
  repeat (first | (with_reducible exact Chg.refl _ _) | (with_reducible refine Chg.set ?_ (Or.inl (by simp)) _) | (with_reducible refine Chg.drewN ?_ _) | (with_reducible refine Chg.drew ?_) | (with_reducible refine Chg.alloc ?_ _))
theorem at_yes (s : LogS) (k : Nat) (op : Int) (e : En) (w : World) (hs : s.own.holds w) (hok : s.ok) (hk : k < s.many) (hop : op = s.base + k + 1) (he : s.list[k]? = some e) :
    Calls Try.prog 27 #[.pointer (some ⟨s.g, 0, none⟩), .int .i64 op] w fun r w' => r = .returned (.tuple #[.agg e.cells.toArray, .bool true]) ∧ Chg (fun _ => False) w w' := by
  rw [s.list_get hok k hk] at he
  obtain ⟨c, n, kk, nm, tx, nu, mo⟩ := e
  obtain ⟨c0, c1, c2, c3⟩ := LogS.cells hs
  have l1 := hok.r1
  have l2 := hok.r64
  have l4 := hok.m
  have lb0 := hok.b0
  have lb1 := hok.b1
  have HE := Lib.hid he
  have Hs := Lib.hid hs
  have Hok := Lib.hid hok
  have hgl : s.g < w.heap.size := Blk.lt hs.1
  have hh : (decide (s.base < op) && decide (op ≤ s.base + (s.many : Int))) = true := by simp; omega
  have HO : ∀ o, Hid (s.own.holds (w.alloc o)) := fun o => Own.chg hs ((Chg.refl (fun _ => False) _).alloc o) (fun _ _ h => h)
  have HC0 : ∀ o, Hid ((w.alloc o).cell? ⟨s.g, 0, none⟩ = some (.int .i64 s.base)) := fun o => (World.cell?_alloc_lt _ _ _ hgl).trans c0
  have HC3 : ∀ o, Hid ((w.alloc o).cell? ⟨s.g, 3, none⟩ = some (.int .i64 s.many)) := fun o => (World.cell?_alloc_lt _ _ _ hgl).trans c3
  have hz1 : s.base ≤ op := by omega
  have hz2 : op ≤ 1099511627776 := by omega
  have HK := Lib.hid (show op - s.base - 1 = (k : Int) by omega)
  have hgz : s.g ≠ w.heap.size := by omega
  have hzg : w.heap.size ≠ s.g := by omega
  clear hop he hs hok
  go_enter Try.func27, Try.ntmps27
  go_wp2_with (first
      | (go_at_call 46; refine (has_any s.g s.base s.many op _ (by exact (HC0 _).out) (by exact (HC3 _).out) lb0 (by omega) (by omega) (by omega)).mono ?_; rw [hh]; rintro r w1 ⟨rfl, n2, rfl⟩))
  obtain ⟨W, hW⟩ : ∃ W, W = (w.alloc (.cells #[.int .i64 0, .int .i64 0, .int .i64 0, .string { data := #[] }, .string { data := #[] }, .int .i64 0, .int .i64 0] 51)).drewN n2 := ⟨_, rfl⟩
  rw [← hW]
  have HS := Lib.hid (show s.own.holds W by rw [hW]; exact (HO _).out)
  have HG := Lib.hid (show Chg (fun _ => False) w W by rw [hW]; exact ((Chg.refl _ _).alloc _).drewN _)
  have HB : Hid (Blk W w.heap.size #[.int .i64 0, .int .i64 0, .int .i64 0, .string { data := #[] }, .string { data := #[] }, .int .i64 0, .int .i64 0] 51) := by rw [hW]; exact (Blk.new w _ _).drewN _
  have hz : W.heap.size = w.heap.size + 1 := by rw [hW]; simp
  clear hW HC0 HC3 HO
  have d0 := (LogS.cells HS.out).1
  have hkl : k < s.es.length := by omega
  have hgW : s.g < W.heap.size := by omega
  have hw2 : IntKind.i64.wrap (op - s.base - 1) = (k : Int) := by rw [HK.out]; exact IntWalk.i64_in _ (by omega)
  have hw1 : IntKind.i64.wrap (op - s.base) = op - s.base := IntWalk.i64_in _ (by omega)
  go_region_held3 (fun w' => w'.cell? ⟨s.g, 0, none⟩ = some (.int .i64 s.base))
    (go_keep)
    (first
      | (go_at_call 47; refine (rget_any s k (En.mk c n kk nm tx nu mo) _ (by exact HS.out) Hok.out hkl HE.out).mono ?_; rintro r w2 ⟨rfl, hk1⟩; have hb2 := Blk.chg (w := W.drew) HB.out hk1 (fun h => h); have z0 : w2.cell? ⟨w.heap.size, 0, none⟩ = some (.int .i64 0) := hb2.cell 0; have y0 : w2.frozen? ⟨w.heap.size, 0, none⟩ = false := hb2.frozen 0; have z1 : w2.cell? ⟨w.heap.size, 1, none⟩ = some (.int .i64 0) := hb2.cell 1; have y1 : w2.frozen? ⟨w.heap.size, 1, none⟩ = false := hb2.frozen 1; have z2 : w2.cell? ⟨w.heap.size, 2, none⟩ = some (.int .i64 0) := hb2.cell 2; have y2 : w2.frozen? ⟨w.heap.size, 2, none⟩ = false := hb2.frozen 2; have z3 : w2.cell? ⟨w.heap.size, 3, none⟩ = some (.string { data := #[] }) := hb2.cell 3; have y3 : w2.frozen? ⟨w.heap.size, 3, none⟩ = false := hb2.frozen 3; have z4 : w2.cell? ⟨w.heap.size, 4, none⟩ = some (.string { data := #[] }) := hb2.cell 4; have y4 : w2.frozen? ⟨w.heap.size, 4, none⟩ = false := hb2.frozen 4; have z5 : w2.cell? ⟨w.heap.size, 5, none⟩ = some (.int .i64 0) := hb2.cell 5; have y5 : w2.frozen? ⟨w.heap.size, 5, none⟩ = false := hb2.frozen 5; have z6 : w2.cell? ⟨w.heap.size, 6, none⟩ = some (.int .i64 0) := hb2.cell 6; have y6 : w2.frozen? ⟨w.heap.size, 6, none⟩ = false := hb2.frozen 6; clear hb2; have hg2 : w2.cell? ⟨s.g, 0, none⟩ = some (.int .i64 s.base) := (hk1.cell (p := ⟨s.g, 0, none⟩) hgW id).trans d0; simp only [En.cells]))
  go_wp2
  have HW := Lib.hid (HG.out.drew.trans hk1)
  clear hw1 hw2
  refine bodyPost_ret (v := .tuple #[.agg (En.mk c n kk nm tx nu mo).cells.toArray, .bool true]) (by simp [results, Try.results27, go_sem, En.cells, z0, z1, z2, z3, z4, z5, z6]) rfl ⟨rfl, ?_⟩
  repeat (first | (with_reducible exact HW.out) | (with_reducible refine Chg.set ?_ (Or.inl (by simp)) _))
theorem at_no (s : LogS) (op : Int) (w : World) (hs : s.own.holds w) (hok : s.ok) (hop : ¬ (s.base < op ∧ op ≤ s.base + s.many)) :
    Calls Try.prog 27 #[.pointer (some ⟨s.g, 0, none⟩), .int .i64 op] w fun r w' => r = .returned (.tuple #[.agg En.zero.cells.toArray, .bool false]) ∧ Chg (fun _ => False) w w' := by
  obtain ⟨c0, c1, c2, c3⟩ := LogS.cells hs
  have l2 := hok.r64
  have l4 := hok.m
  have lb0 := hok.b0
  have lb1 := hok.b1
  have hgl : s.g < w.heap.size := Blk.lt hs.1
  have hh : (decide (s.base < op) && decide (op ≤ s.base + (s.many : Int))) = false := by simp; omega
  have HC0 : ∀ o, Hid ((w.alloc o).cell? ⟨s.g, 0, none⟩ = some (.int .i64 s.base)) := fun o => (World.cell?_alloc_lt _ _ _ hgl).trans c0
  have HC3 : ∀ o, Hid ((w.alloc o).cell? ⟨s.g, 3, none⟩ = some (.int .i64 s.many)) := fun o => (World.cell?_alloc_lt _ _ _ hgl).trans c3
  clear hop hs hok
  go_enter Try.func27, Try.ntmps27
  go_wp2_with (first
      | (go_at_call 46; refine (has_any s.g s.base s.many op _ (by exact (HC0 _).out) (by exact (HC3 _).out) lb0 (by omega) (by omega) (by omega)).mono ?_; rw [hh]; rintro r w1 ⟨rfl, n2, rfl⟩))
  refine bodyPost_ret (v := .tuple #[.agg En.zero.cells.toArray, .bool false]) (by simp [results, Try.results27, go_sem, En.cells, En.zero]; rfl) rfl ⟨rfl, ?_⟩
  repeat (first | (with_reducible exact Chg.refl _ _) | (with_reducible refine Chg.set ?_ (Or.inl (by simp)) _) | (with_reducible refine Chg.drewN ?_ _) | (with_reducible refine Chg.drew ?_) | (with_reducible refine Chg.alloc ?_ _))
theorem new_no (room : Int) (w : World) (h : room < 1 ∨ 64 < room) :
    Calls Try.prog 21 #[.int .i64 room] w fun r w' => r = .returned (.tuple #[.pointer none, .int .i64 90]) ∧ w = w' := by
  by_cases h1 : room < 1
  · go_enter Try.func21, Try.ntmps21
    go_wp2
    go_ret2
    exact ⟨rfl, rfl⟩
  · have h2 : 64 < room := by omega
    clear h
    go_enter Try.func21, Try.ntmps21
    go_wp2
    go_ret2
    exact ⟨rfl, rfl⟩
theorem Try.info51 : (Try.prog.info? 51).map (fun i => (i.zero, i.size, i.bytes)) = some (some (.agg En.zero.cells.toArray), 7, 72) := by kernel_rfl
theorem new_yes (room : Nat) (w : World) (h : 1 ≤ room) (h2 : room ≤ 64) :
    Calls Try.prog 21 #[.int .i64 room] w fun r w' => ∃ g pb, r = .returned (.tuple #[.pointer (some ⟨g, 0, none⟩), .int .i64 0]) ∧
      Turns w w' Own.emp (LogS.mk g pb 0 0 0 (List.replicate room En.zero)).own := by
  have hd1 : decide ((room : Int) < 1) = false := by simp; omega
  have hd2 : decide (64 < (room : Int)) = false := by simp; omega
  obtain ⟨i0, hi0, hz0, hz1, hz2⟩ := info_parts Try.info51
  go_enter Try.func21, Try.ntmps21
  go_wp2_with (at_make; refine wpList_make_full _ rfl _ _ 52 rfl 0 51 i0 (.agg En.zero.cells.toArray) 7 Try.underlying52 hi0 hz0 hz1 .i64 .i64 room room room rfl rfl rfl rfl (by rw [hz2]; omega) (by simp only [maxLen]; omega) (Nat.zero_le _) ?_; intro w1 ho1 hg1)
  go_ret2
  refine ⟨w1.heap.size, w.heap.size, rfl, ?_⟩
  have hb := row_full ho1
  have hlt := hb.lt
  rw [show (Value.agg En.zero.cells.toArray).cells = En.zero.cells.toArray from rfl, flat_zero] at hb
  refine ⟨⟨hg1.os, hg1.tape, hg1.output, by have := hg1.size; simp; omega, fun k hk _ => ?_⟩, ⟨?_, ?_, ?_⟩, ?_⟩
  · rw [Below.heap_alloc _ _ _ (by have := hg1.size; omega)]
    exact hg1.block k hk (by simp)
  · have := Blk.new w1 #[.int .i64 0, .slice (some ⟨w.heap.size, 0, none⟩) room room, .int .i64 0, .int .i64 0] 86
    show Blk _ _ #[.int .i64 0, .slice (some ⟨w.heap.size, 0, none⟩) (List.replicate room En.zero).length (List.replicate room En.zero).length, .int .i64 0, .int .i64 0] 86
    rw [List.length_replicate]
    exact this
  · exact hb.alloc _
  · intro b h1 h2
    have h1 : b = w1.heap.size := h1
    have h2 : b = w.heap.size := h2
    omega
  · rintro b (h1 | h1)
    · have h1 : b = w1.heap.size := h1
      exact Or.inr (by have := hg1.size; omega)
    · have h1 : b = w.heap.size := h1
      exact Or.inr (by omega)
end Go.Proofs.Ytpaaghbmlenlfaa.Ol
