/- The log of package oplog: what is refused; Reset. -/
import Derived.Test.YtpaaghbmlenlfaaOlRf
import Derived.Test.YtpaaghbmlenlfaaOpn
namespace Go.Proofs.Ytpaaghbmlenlfaa.Ol
open Go.RowKit Go.Hp
attribute [local go_sem] min2_lean min_two max2_lean max_two
set_option linter.unusedSimpArgs false
set_option linter.unusedVariables false
set_option maxRecDepth 100000
theorem add_end (s : LogS) (e : En) (w : World) (hs : s.own.holds w) (hok : s.ok) (hm : s.many < s.es.length) (hb : s.base + s.many = 1099511627776) :
    Calls Try.prog 22 #[.pointer (some ⟨s.g, 0, none⟩), .agg e.cells.toArray] w fun r w' => r = .returned (.int .i64 93) ∧ Chg (fun _ => False) w w' := by
  obtain ⟨c0, c1, c2, c3⟩ := LogS.cells hs
  have l2 := hok.r64
  have lb0 := hok.b0
  have lb1 := hok.b1
  have hgl : s.g < w.heap.size := Blk.lt hs.1
  have hd1 : (((s.es.length : Int) - (s.many : Int)) == 0) = false := by simp; omega
  have hd2 : ((s.base + (s.many : Int)) == 1099511627776) = true := by simp; omega
  have HA : ∀ j, Hid ((w.alloc (.cells e.cells.toArray 51)).cell? ⟨s.g, j, none⟩ = w.cell? ⟨s.g, j, none⟩) := fun j => World.cell?_alloc_lt _ _ _ hgl
  have HC0 := Lib.hid ((HA 0).out.trans c0)
  have HC1 := Lib.hid ((HA 1).out.trans c1)
  have HC3 := Lib.hid ((HA 3).out.trans c3)
  clear hs hok HA c1 c2 c3
  obtain ⟨c, n, k, nm, tx, nu, mo⟩ := e
  show Calls Try.prog 22 #[.pointer (some ⟨s.g, 0, none⟩), .agg #[.int .i64 c, .int .i64 n, .int .i64 k, .string nm, .string tx, .int .i64 nu, .int .i64 mo]] w _
  go_enter Try.func22, Try.ntmps22
  go_wp2_with (first
    | (go_at_call 26; refine (room_any s.g s.pb s.es.length s.es.length s.many _ (by exact HC1.out) (by exact HC3.out) l2 (by omega) (by omega)).mono ?_; rintro r w1 ⟨rfl, n1, rfl⟩)
    | (go_at_call 25; refine (op_any s.g s.base s.many _ (by exact HC0.out) (by exact HC3.out) lb0 (by omega) (by omega) (by omega)).mono ?_; rintro r w1 ⟨rfl, n2, rfl⟩))
  go_ret
  exact ⟨rfl, ((Chg.refl _ _).alloc _).drewN _⟩
theorem cut_no (s : LogS) (op : Int) (w : World) (hs : s.own.holds w) (hok : s.ok) (hop : op < s.base ∨ s.base + s.many < op) :
    Calls Try.prog 23 #[.pointer (some ⟨s.g, 0, none⟩), .int .i64 op] w fun r w' => r = .returned (.int .i64 92) ∧ Chg (fun _ => False) w w' := by
  obtain ⟨c0, c1, c2, c3⟩ := LogS.cells hs
  have l2 := hok.r64
  have l4 := hok.m
  have lb0 := hok.b0
  have lb1 := hok.b1
  clear hs hok c1 c2
  by_cases h1 : op < s.base
  · have hd1 : decide (op < s.base) = true := by simpa using h1
    go_enter Try.func23, Try.ntmps23
    go_wp2_with fail
    go_ret
    exact ⟨rfl, Chg.refl _ _⟩
  · have hd1 : decide (op < s.base) = false := by simpa using h1
    have h2 : s.base + (s.many : Int) < op := by omega
    have hd2 : decide (s.base + (s.many : Int) < op) = true := by simpa using h2
    go_enter Try.func23, Try.ntmps23
    go_wp2_with (first
      | (go_at_call 25; refine (op_any s.g s.base s.many _ c0 c3 lb0 (by omega) (by omega) (by omega)).mono ?_; rintro r w1 ⟨rfl, n2, rfl⟩))
    go_ret
    exact ⟨rfl, (Chg.refl _ _).drewN _⟩
theorem reset_bad (s : LogS) (b' : Int) (x : Value) (k : Nat) (A' : Option Addr) (c' : Nat) (w : World) (hx : x = .slice A' k c') (hk : k ≤ 1152921504606846976) (hb : b' < 0 ∨ 1099511627776 < b' ∨ 1099511627776 < b' + k) :
    Calls Try.prog 34 #[.pointer (some ⟨s.g, 0, none⟩), .int .i64 b', x] w fun r w' => r = .returned (.int .i64 92) ∧ w = w' := by
  subst hx
  by_cases h1 : b' < 0
  · go_enter Try.func34, Try.ntmps34
    go_wp2_with fail
    go_ret
    exact ⟨rfl, rfl⟩
  · by_cases h2 : 1099511627776 < b'
    · go_enter Try.func34, Try.ntmps34
      go_wp2_with fail
      go_ret
      exact ⟨rfl, rfl⟩
    · have h3 : 1099511627776 - b' < (k : Int) := by omega
      have hw : IntKind.i64.wrap (1099511627776 - b') = 1099511627776 - b' := IntWalk.i64_in _ (by omega)
      have hd1 : decide (b' < 0) = false := by simpa using h1
      have hd2 : decide (1099511627776 < b') = false := by simpa using h2
      have hd3 : decide (1099511627776 - b' < (k : Int)) = true := by simpa using h3
      go_enter Try.func34, Try.ntmps34
      go_wp2_with fail
      go_ret
      exact ⟨rfl, rfl⟩
theorem reset_room (s : LogS) (b' : Int) (x : Value) (k : Nat) (A' : Option Addr) (c' : Nat) (w : World) (hs : s.own.holds w) (hok : s.ok) (hx : x = .slice A' k c') (hk : k ≤ 1152921504606846976) (h1 : ¬ b' < 0) (h2 : ¬ 1099511627776 < b') (h3 : ¬ 1099511627776 < b' + k) (h4 : s.es.length < k) :
    Calls Try.prog 34 #[.pointer (some ⟨s.g, 0, none⟩), .int .i64 b', x] w fun r w' => r = .returned (.int .i64 90) ∧ w = w' := by
  subst hx
  obtain ⟨c0, c1, c2, c3⟩ := LogS.cells hs
  clear hs hok c0 c2 c3
  have hw : IntKind.i64.wrap (1099511627776 - b') = 1099511627776 - b' := IntWalk.i64_in _ (by omega)
  have hd1 : decide (b' < 0) = false := by simpa using h1
  have hd2 : decide (1099511627776 < b') = false := by simpa using h2
  have hd3 : decide (1099511627776 - b' < (k : Int)) = false := by simp; omega
  have h3' : ¬ 1099511627776 - b' < (k : Int) := by omega
  have hd4 : decide ((s.es.length : Int) < (k : Int)) = true := by simp; omega
  have hd5 : decide (s.es.length < k) = true := by simpa using h4
  go_enter Try.func34, Try.ntmps34
  go_wp2_with fail
  go_ret
  exact ⟨rfl, rfl⟩
/-- Entries that lie behind a slice's beginning. -/
def EnS (w : World) (A : Option Addr) (l : List En) : Prop := ∀ (i : Nat) (e : En), l[i]? = some e → ∃ b off, A = some ⟨b, off, none⟩ ∧ b < w.heap.size ∧ ∀ j u, e.cells[j]? = some u → w.cell? ⟨b, off + i * 7 + j, none⟩ = some u
theorem EnS.chg {w w' : World} {A : Option Addr} {l : List En} {S : Nat → Prop} (h : EnS w A l) (hc : Chg S w w') (hS : ∀ b off, A = some ⟨b, off, none⟩ → ¬ S b) : EnS w' A l := fun i e hi => by
  obtain ⟨b, off, ha, hb, hx⟩ := h i e hi
  exact ⟨b, off, ha, Nat.lt_of_lt_of_le hb hc.size, fun j u hu => (hc.cell (p := ⟨b, off + i * 7 + j, none⟩) hb (hS b off ha)).trans (hx j u hu)⟩
theorem EnS.of_row {w : World} {A : Option Addr} {c : Nat} {l : List En} (h : w.ownsRow 0 51 7 (.slice A l.length c) l.length (flat l)) : EnS w A l := fun i e hi => by
  rcases h.2 with ⟨hv, h0⟩ | ⟨g, cap, cur, hv, _⟩
  · have := (List.getElem?_eq_some_iff.1 hi).1; omega
  · cases hv
    refine ⟨g, 0, rfl, row_lt h, fun j u hu => ?_⟩
    have := (row_cell h (i * 7 + j) (flat_get l i e hi j u hu)).1
    rw [show 0 + i * 7 + j = i * 7 + j by omega]
    exact this
theorem EnS.src {w : World} {A : Option Addr} {c : Nat} {l : List En} (h : EnS w A l) : Src w (.slice A l.length c) l.length 7 (flat l) := by
  refine ⟨flat_len l, ?_⟩
  cases A with
  | none =>
    cases l with
    | nil => exact Or.inl ⟨c, rfl, rfl⟩
    | cons e r => obtain ⟨b, off, ha, _⟩ := h 0 e rfl; cases ha
  | some a =>
    refine Or.inr ⟨a, c, rfl, fun q u hq => ?_⟩
    have hql : q < (flat l).length := (List.getElem?_eq_some_iff.1 hq).1
    rw [flat_len] at hql
    obtain ⟨e, he⟩ : ∃ e, l[q / 7]? = some e := ⟨l[q / 7]'(by omega), List.getElem?_eq_getElem _⟩
    obtain ⟨u', hu⟩ : ∃ u, e.cells[q % 7]? = some u := ⟨e.cells[q % 7]'(by rw [En.len]; omega), List.getElem?_eq_getElem _⟩
    have h1 := flat_get l (q / 7) e he (q % 7) u' hu
    rw [show q / 7 * 7 + q % 7 = q by omega, hq] at h1
    cases h1
    obtain ⟨b, off, ha, _, hx⟩ := h (q / 7) e he
    cases ha
    have := hx (q % 7) u hu
    have ha : (⟨b, off, none⟩ : Addr).add q = ⟨b, off + q / 7 * 7 + q % 7, none⟩ := by unfold Addr.add; split <;> simp_all <;> omega
    rw [ha]
    exact this
theorem LogS.reset_start {s : LogS} (h : s.ok) (b' : Int) (h1 : 0 ≤ b') (h2 : b' ≤ 1099511627776) : ({ s.drop s.many with base := b' } : LogS).ok :=
  ⟨h.r1, h.r64, Nat.mod_lt _ (by have := h.r1; omega), by simp [LogS.drop], h1, by simp [LogS.drop]; omega⟩
set_option maxHeartbeats 1000000 in
theorem reset_ok (s : LogS) (b' : Int) (x : Value) (ls : List En) (A' : Option Addr) (c' : Nat) (w : World) (hs : s.own.holds w) (hok : s.ok) (hx : x = .slice A' ls.length c') (hsrc : EnS w A' ls) (hfar : ∀ b off, A' = some ⟨b, off, none⟩ → 0 < ls.length → ¬ s.own.foot b) (h1 : 0 ≤ b') (h2 : b' ≤ 1099511627776) (h3 : b' + ls.length ≤ 1099511627776) (h4 : ls.length ≤ s.es.length) :
    Calls Try.prog 34 #[.pointer (some ⟨s.g, 0, none⟩), .int .i64 b', x] w fun r w' => r = .returned (.int .i64 0) ∧ ∃ s' : LogS, s'.ok ∧ s'.base = b' ∧ s'.list = ls ∧ s'.es.length = s.es.length ∧ s'.g = s.g ∧ s'.pb = s.pb ∧ Turns w w' s.own s'.own := by
  subst hx
  obtain ⟨c0, c1, c2, c3⟩ := LogS.cells hs
  have l2 := hok.r64
  have l4 := hok.m
  have f0 := Blk.frozen hs.1 0
  have hgl : s.g < w.heap.size := Blk.lt hs.1
  obtain ⟨k, hk⟩ : ∃ k, ls.length = k := ⟨_, rfl⟩
  have Hk := Lib.hid hk
  rw [hk] at h3 h4 ⊢
  have hw : IntKind.i64.wrap (1099511627776 - b') = 1099511627776 - b' := IntWalk.i64_in _ (by omega)
  have hd1 : decide (b' < 0) = false := by simp; omega
  have hd2 : decide (1099511627776 < b') = false := by simp; omega
  have hd3 : decide (1099511627776 - b' < (k : Int)) = false := by simp; omega
  have h3' : ¬ 1099511627776 - b' < (k : Int) := by omega
  have hd4 : decide ((s.es.length : Int) < (k : Int)) = false := by simp; omega
  have hd5 : decide (s.es.length < k) = false := by simp; omega
  have Hok := Lib.hid hok
  have HT1 : Hid (Turns w (w.setCell ⟨s.g, 0, none⟩ (.int .i64 b')) s.own ({ s with base := b' } : LogS).own) := LogS.base_turns (Turns.refl hs) b'
  have HSRC := Lib.hid hsrc
  have HFAR := Lib.hid hfar
  have e1 := (LogS.cells HT1.out.now).2.2.2
  clear hs hok hk hsrc hfar c2 c3
  go_enter Try.func34, Try.ntmps34
  go_wp2_with fail
  obtain ⟨W, hW⟩ : ∃ W, W = w.setCell ⟨s.g, 0, none⟩ (.int .i64 b') := ⟨_, rfl⟩
  rw [← hW] at HT1 e1 ⊢
  have hWs : W.heap.size = w.heap.size := by rw [hW]; simp [World.setCell]
  clear hW c0 c1
  go_still_tail 8, (by kernel_rfl)
  change wpList _ _ _ _ _ (World.drew _)
  go_wp2_with fail
  refine (drop_any2 ({ s with base := b' } : LogS) s.many _ (by exact HT1.out.drew.now) Hok.out.r1 Hok.out.r64 Hok.out.f l4 (Nat.le_refl _)).mono ?_
  rintro r w2 ⟨rfl, ht2⟩
  obtain ⟨s2, hs2⟩ : ∃ s2 : LogS, s2 = { s.drop s.many with base := b' } := ⟨_, rfl⟩
  have HT2 : Hid (Turns w w2 s.own s2.own) := by rw [hs2]; exact HT1.out.drew.trans ht2
  have HK2 : Hid s2.ok := by rw [hs2]; exact LogS.reset_start Hok.out b' h1 h2
  have p1 : s2.base = b' := by rw [hs2]
  have p2 : s2.es.length = s.es.length := by rw [hs2]; rfl
  have p3 : s2.g = s.g := by rw [hs2]; rfl
  have p4 : s2.pb = s.pb := by rw [hs2]; rfl
  have p5 : s2.list = [] := by rw [hs2]; simp [LogS.list, LogS.drop]
  have p6 : s2.many = 0 := by rw [hs2]; simp [LogS.drop]
  clear ht2 hs2 HT1 e1 hWs W
  go_wp2_with fail
  go_loopw [48] (fun x48 wr => ∃ (i : Nat) (s3 : LogS), x48 = .int .i64 (i : Int) ∧ i ≤ k ∧ s3.many = i ∧ s3.ok ∧ s3.base = b' ∧ s3.list = ls.take i ∧ s3.es.length = s.es.length ∧ s3.g = s.g ∧ s3.pb = s.pb ∧ Turns w wr s.own s3.own) (fun x48 _ => k - (intOf x48).toNat)
  case atStart => exact ⟨0, s2, rfl, Nat.zero_le _, p6, HK2.out, p1, by simpa using p5, p2, p3, p4, HT2.out⟩
  case round =>
    obtain ⟨i, s3, rfl, hi, r1, r2, r3, r4, r5, r6, r7, ht⟩ := hrel
    by_cases hlt : i < k
    · have hd' : decide (i < k) = true := by simpa using hlt
      obtain ⟨e, he⟩ : ∃ e, ls[i]? = some e := ⟨ls[i]'(by rw [Hk.out]; exact hlt), List.getElem?_eq_getElem _⟩
      have HS3 := Lib.hid (HSRC.out.chg ht.chg (fun b off ha => HFAR.out b off ha (by have := Hk.out; omega)))
      obtain ⟨b, off, ha, hb, hx⟩ := HS3.out i e he
      subst ha
      have HE := Lib.hid he
      have HT3 := Lib.hid ht
      have HK3 := Lib.hid r2
      have HR := Lib.hid (show s3.base = b' ∧ s3.list = ls.take i ∧ s3.es.length = s.es.length ∧ s3.pb = s.pb from ⟨r3, r4, r5, r7⟩)
      have hm3 : s3.many < s3.es.length := by omega
      have hb3 : s3.base + s3.many < 1099511627776 := by omega
      clear he r2 r3 r4 r5 r7 ht
      obtain ⟨ec, en, kk, nm, tx, nu, mo⟩ := e
      have z0 : wr.cell? ⟨b, off + i * 7, none⟩ = some (.int .i64 ec) := hx 0 _ rfl
      have z1 : wr.cell? ⟨b, off + i * 7 + 1, none⟩ = some (.int .i64 en) := hx 1 _ rfl
      have z2 : wr.cell? ⟨b, off + i * 7 + 2, none⟩ = some (.int .i64 kk) := hx 2 _ rfl
      have z3 : wr.cell? ⟨b, off + i * 7 + 3, none⟩ = some (.string nm) := hx 3 _ rfl
      have z4 : wr.cell? ⟨b, off + i * 7 + 4, none⟩ = some (.string tx) := hx 4 _ rfl
      have z5 : wr.cell? ⟨b, off + i * 7 + 5, none⟩ = some (.int .i64 nu) := hx 5 _ rfl
      have z6 : wr.cell? ⟨b, off + i * 7 + 6, none⟩ = some (.int .i64 mo) := hx 6 _ rfl
      clear hx
      have HA := Lib.hid ((HT3.out).alloc (.cells #[.int .i64 ec, .int .i64 en, .int .i64 kk, .string nm, .string tx, .int .i64 nu, .int .i64 mo] 51))
      have HBX := Lib.hid (Blk.new wr #[.int .i64 ec, .int .i64 en, .int .i64 kk, .string nm, .string tx, .int .i64 nu, .int .i64 mo] 51)
      have HRA := Lib.hid (fun W (h : s3.own.holds W) => by
        have := radd_any s3 ⟨ec, en, kk, nm, tx, nu, mo⟩ W h HK3.out hm3
        rw [r6] at this
        exact this)
      go_wp2_with fail
      obtain ⟨W, hW⟩ : ∃ W, W = wr.alloc (.cells #[.int .i64 ec, .int .i64 en, .int .i64 kk, .string nm, .string tx, .int .i64 nu, .int .i64 mo] 51) := ⟨_, rfl⟩
      rw [← hW] at HA HBX ⊢
      have y0 : W.cell? ⟨wr.heap.size, 0, none⟩ = some (.int .i64 ec) := HBX.out.cell 0
      have y1 : W.cell? ⟨wr.heap.size, 1, none⟩ = some (.int .i64 en) := HBX.out.cell 1
      have y2 : W.cell? ⟨wr.heap.size, 2, none⟩ = some (.int .i64 kk) := HBX.out.cell 2
      have y3 : W.cell? ⟨wr.heap.size, 3, none⟩ = some (.string nm) := HBX.out.cell 3
      have y4 : W.cell? ⟨wr.heap.size, 4, none⟩ = some (.string tx) := HBX.out.cell 4
      have y5 : W.cell? ⟨wr.heap.size, 5, none⟩ = some (.int .i64 nu) := HBX.out.cell 5
      have y6 : W.cell? ⟨wr.heap.size, 6, none⟩ = some (.int .i64 mo) := HBX.out.cell 6
      clear hW z0 z1 z2 z3 z4 z5 z6
      go_still_tail 4, (by kernel_rfl)
      change wpList _ _ _ _ _ (World.drew _)
      go_wp2_with fail
      refine (HRA.out _ (by exact HA.out.drew.now)).mono ?_
      rintro r w3 ⟨rfl, ht3⟩
      have HT4 := Lib.hid (HA.out.drew.trans ht3)
      clear ht3 HRA y0 y1 y2 y3 y4 y5 y6 HBX HA
      go_wp2_with fail
      go_roundw
      case rel =>
        obtain ⟨q3, q4, q5, q7⟩ := HR.out
        refine ⟨i + 1, s3.add ⟨ec, en, kk, nm, tx, nu, mo⟩, by simp, hlt, by simp [LogS.add, r1], LogS.add_ok HK3.out _ hm3 hb3, q3, ?_, by simp [LogS.add, q5], r6, q7, HT4.out⟩
        rw [LogS.add_list _ HK3.out _ hm3, q4, List.take_add_one, HE.out]
        rfl
      case measure => simp [intOf]; omega
    · have hd' : decide (i < k) = false := by simpa using hlt
      have HF := Lib.hid (show ∃ s' : LogS, s'.ok ∧ s'.base = b' ∧ s'.list = ls ∧ s'.es.length = s.es.length ∧ s'.g = s.g ∧ s'.pb = s.pb ∧ Turns w wr s.own s'.own from ⟨s3, r2, r3, by rw [r4, List.take_of_length_le (by have := Hk.out; omega)], r5, r6, r7, ht⟩)
      clear r2 r3 r4 r5 r6 r7 ht
      go_wp2_with fail
      go_ret
      exact ⟨rfl, HF.out⟩
end Go.Proofs.Ytpaaghbmlenlfaa.Ol
