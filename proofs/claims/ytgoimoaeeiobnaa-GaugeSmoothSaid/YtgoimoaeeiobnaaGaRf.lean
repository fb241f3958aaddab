/- The gauge: what the reference's Of measures. -/
import Derived.Test.YtgoimoaeeiobnaaGaHe
import Derived.Deep.RegionHeld3
namespace Go.Proofs.Ytgoimoaeeiobnaa.Ga
open Go.RowKit Go.Hp Go.Fl
set_option linter.unusedSimpArgs false
set_option linter.unusedVariables false
set_option maxRecDepth 100000
attribute [local go_sem] run_store_float
def lo (z : Int) (zs : List Int) : Int := zs.foldl min z
def hi (z : Int) (zs : List Int) : Int := zs.foldl max z
theorem lo_snoc (z : Int) (zs : List Int) (x : Int) : lo z (zs ++ [x]) = min (lo z zs) x := by unfold lo; rw [List.foldl_append]; rfl
theorem hi_snoc (z : Int) (zs : List Int) (x : Int) : hi z (zs ++ [x]) = max (hi z zs) x := by unfold hi; rw [List.foldl_append]; rfl
theorem lo_all (zs : List Int) (h : zs ≠ []) : lo (zs.getD 0 0) zs = Lib.minOf zs := by
  cases zs with
  | nil => exact absurd rfl h
  | cons z zs => show (z :: zs).foldl min z = _; rw [List.foldl_cons, show min z z = z by omega]; unfold Lib.minOf; rw [List.foldl_cons, List.headD_cons, show min z z = z by omega]
theorem hi_all (zs : List Int) (h : zs ≠ []) : hi (zs.getD 0 0) zs = Lib.maxOf zs := by
  cases zs with
  | nil => exact absurd rfl h
  | cons z zs => show (z :: zs).foldl max z = _; rw [List.foldl_cons, show max z z = z by omega]; unfold Lib.maxOf; rw [List.foldl_cons, List.headD_cons, show max z z = z by omega]
theorem rof_many (A : Option Addr) (n c : Nat) (w : World) (h : 4096 < n) :
    Calls Try.prog 16 #[.slice A n c] w fun e w' => e = .returned (.tuple #[.agg #[.int .i64 0, .int .i64 0, .int .i64 0, .float .f64 0, .float .f64 0], .int .i64 220]) ∧ Chg (fun _ => False) w w' := by
  have d1 : decide (4096 < n) = true := by simpa using h
  have d2 : decide ((4096 : Int) < (n : Int)) = true := by simp; omega
  go_enter Try.func16, Try.ntmps16
  go_wp2
  refine bodyPost_ret (v := .tuple #[.agg #[.int .i64 0, .int .i64 0, .int .i64 0, .float .f64 0, .float .f64 0], .int .i64 220]) (by simp [results, Try.results16, go_sem, *]) rfl ⟨rfl, ?_⟩
  (repeat (first | (with_reducible exact Chg.refl _ _) | (with_reducible refine Chg.set ?_ (Or.inl (by simp)) _) | (with_reducible refine Chg.alloc ?_ _) | (with_reducible refine Chg.drew ?_) | (with_reducible refine Chg.drewN ?_ _)))
theorem rof_none (A : Option Addr) (c : Nat) (w : World) :
    Calls Try.prog 16 #[.slice A 0 c] w fun e w' => e = .returned (.tuple #[.agg #[.int .i64 0, .int .i64 0, .int .i64 0, .float .f64 0, .float .f64 0], .int .i64 222]) ∧ Chg (fun _ => False) w w' := by
  go_enter Try.func16, Try.ntmps16
  go_wp2
  refine bodyPost_ret (v := .tuple #[.agg #[.int .i64 0, .int .i64 0, .int .i64 0, .float .f64 0, .float .f64 0], .int .i64 222]) (by simp [results, Try.results16, go_sem, *]) rfl ⟨rfl, ?_⟩
  (repeat (first | (with_reducible exact Chg.refl _ _) | (with_reducible refine Chg.set ?_ (Or.inl (by simp)) _) | (with_reducible refine Chg.alloc ?_ _) | (with_reducible refine Chg.drew ?_) | (with_reducible refine Chg.drewN ?_ _)))
def MB (w0 w : World) (n : Nat) (a b : Int) (f : Nat) : Prop := Chg (fun _ => False) w0 w ∧ Blk w w0.heap.size #[.int .i64 0, .int .i64 0, .int .i64 0, .float .f64 0, .float .f64 0] 27 ∧ Blk w (w0.heap.size + 1) #[.int .i64 n, .int .i64 a, .int .i64 b, .float .f64 f, .float .f64 0] 27
theorem MB.drewN {w0 w : World} {n : Nat} {a b : Int} {f : Nat} (h : MB w0 w n a b f) (q : Nat) : MB w0 (w.drewN q) n a b f := ⟨h.1.drewN q, h.2.1.drewN q, h.2.2.drewN q⟩
theorem MB.set {w0 w : World} {n : Nat} {a b : Int} {f : Nat} (h : MB w0 w n a b f) (o : Nat) (v : Value) : Chg (fun _ => False) w0 (w.setCell ⟨w0.heap.size + 1, o, none⟩ v) ∧ Blk (w.setCell ⟨w0.heap.size + 1, o, none⟩ v) w0.heap.size #[.int .i64 0, .int .i64 0, .int .i64 0, .float .f64 0, .float .f64 0] 27 :=
  ⟨h.1.set (Or.inl (by simp)) v, h.2.1.set_ne (by simp) v⟩
theorem MB.set1 {w0 w : World} {n : Nat} {a b : Int} {f : Nat} (h : MB w0 w n a b f) (v : Int) : MB w0 (w.setCell ⟨w0.heap.size + 1, 1, none⟩ (.int .i64 v)) n v b f := ⟨(h.set 1 _).1, (h.set 1 _).2, h.2.2.set 1 _⟩
theorem MB.set2 {w0 w : World} {n : Nat} {a b : Int} {f : Nat} (h : MB w0 w n a b f) (v : Int) : MB w0 (w.setCell ⟨w0.heap.size + 1, 2, none⟩ (.int .i64 v)) n a v f := ⟨(h.set 2 _).1, (h.set 2 _).2, h.2.2.set 2 _⟩
theorem MB.set3 {w0 w : World} {n : Nat} {a b : Int} {f : Nat} (h : MB w0 w n a b f) (v : Nat) : MB w0 (w.setCell ⟨w0.heap.size + 1, 3, none⟩ (.float .f64 v)) n a b v := ⟨(h.set 3 _).1, (h.set 3 _).2, h.2.2.set 3 _⟩
theorem MB.reads {w0 w : World} {n : Nat} {a b : Int} {f : Nat} (h : MB w0 w n a b f) :
    w.cell? ⟨w0.heap.size + 1, 0, none⟩ = some (.int .i64 n) ∧ w.cell? ⟨w0.heap.size + 1, 1, none⟩ = some (.int .i64 a) ∧ w.cell? ⟨w0.heap.size + 1, 2, none⟩ = some (.int .i64 b) ∧ w.cell? ⟨w0.heap.size + 1, 3, none⟩ = some (.float .f64 f) ∧ w.cell? ⟨w0.heap.size + 1, 4, none⟩ = some (.float .f64 0) ∧
    w.frozen? ⟨w0.heap.size + 1, 1, none⟩ = false ∧ w.frozen? ⟨w0.heap.size + 1, 2, none⟩ = false ∧ w.frozen? ⟨w0.heap.size + 1, 3, none⟩ = false ∧ w.frozen? ⟨w0.heap.size + 1, 4, none⟩ = false ∧ w0.heap.size + 1 < w.heap.size :=
  ⟨h.2.2.cell 0, h.2.2.cell 1, h.2.2.cell 2, h.2.2.cell 3, h.2.2.cell 4, h.2.2.frozen 1, h.2.2.frozen 2, h.2.2.frozen 3, h.2.2.frozen 4, h.2.2.lt⟩
set_option maxHeartbeats 1000000 in
theorem rof_ok (b off n c : Nat) (zs : List Int) (w : World) (hs : Sl w (some ⟨b, off, none⟩) zs) (hi' : I64 zs) (hn : zs.length = n) (h1 : 1 ≤ n) (h2 : n ≤ 4096) :
    Calls Try.prog 16 #[.slice (some ⟨b, off, none⟩) n c] w fun e w' => e = .returned (.tuple #[.agg #[.int .i64 n, .int .i64 (Lib.minOf zs), .int .i64 (Lib.maxOf zs), .float .f64 (mF zs), .float .f64 (devF zs)], .int .i64 0]) ∧ Chg (fun _ => False) w w' := by
  have d1 : decide (4096 < n) = false := by simp; omega
  have d2 : decide ((4096 : Int) < (n : Int)) = false := by simp; omega
  have d3 : ((n : Int) == 0) = false := by simp; omega
  have HI := Lib.hid hi'
  have HN := Lib.hid hn
  have hne : zs ≠ [] := fun h => by subst h; simp at hn; omega
  have hbl : b < w.heap.size := by
    rcases hs with h | ⟨b', off', h, hb, hc⟩
    · exact absurd h hne
    · obtain ⟨rfl, rfl⟩ : b = b' ∧ off = off' := by simpa using h
      exact hb
  have hcell : ∀ j, j < zs.length → w.cell? ⟨b, off + j, none⟩ = some (.int .i64 (zs.getD j 0)) := by
    intro j hj
    rcases hs with h | ⟨b', off', h, _, hc⟩
    · exact absurd h hne
    · obtain ⟨rfl, rfl⟩ : b = b' ∧ off = off' := by simpa using h
      rw [hc j hj]; simp [List.getD, hj]
  have HC := Lib.hid hcell
  obtain ⟨z0, hz0⟩ : ∃ z0, zs.getD 0 0 = z0 := ⟨_, rfl⟩
  have hc0 := hcell 0 (by omega)
  rw [hz0, Nat.add_zero] at hc0
  have HZ0 := Lib.hid hz0
  have HMI := Lib.hid (lo_all zs hne)
  have HMA := Lib.hid (hi_all zs hne)
  have HNE := Lib.hid hne
  have hpos : 0 < n := h1
  have hcw : (w.alloc (.cells #[.int .i64 0, .int .i64 0, .int .i64 0, .float .f64 0, .float .f64 0] 27)).cell? ⟨b, off, none⟩ = some (.int .i64 z0) := (World.cell?_alloc_lt _ _ _ hbl).trans hc0
  clear hs hi' hn hcell hz0 hne hc0
  go_enter Try.func16, Try.ntmps16
  go_wp2_with fail
  go_region_held3 (fun w' => w'.cell? ⟨b, off, none⟩ = some (.int .i64 z0)) (go_keep) (fail)
  go_wp2_with fail
  have HM0 : Hid (MB w (((w.alloc (.cells #[.int .i64 0, .int .i64 0, .int .i64 0, .float .f64 0, .float .f64 0] 27)).alloc (.cells #[.int .i64 n, .int .i64 z0, .int .i64 z0, .float .f64 0, .float .f64 0] 27)).drew) n (lo z0 (zs.take 0)) (hi z0 (zs.take 0)) 0) := by
    refine Lib.hid ⟨((Chg.refl _ _).alloc _).alloc _ |>.drew, ((Blk.new _ _ _).alloc _).drew, ?_⟩
    have h := Blk.new (w.alloc (.cells #[.int .i64 0, .int .i64 0, .int .i64 0, .float .f64 0, .float .f64 0] 27)) #[.int .i64 n, .int .i64 z0, .int .i64 z0, .float .f64 0, .float .f64 0] 27
    have e : (w.alloc (.cells #[.int .i64 0, .int .i64 0, .int .i64 0, .float .f64 0, .float .f64 0] 27)).heap.size = w.heap.size + 1 := by simp
    rw [e] at h
    exact h.drew
  go_loopw [5, 6] (fun x5 x6 wr => ∃ k : Nat, x6 = .int .i64 k ∧ k ≤ n ∧ x5 = .float .f64 (sF (zs.take k)) ∧ MB w wr n (lo z0 (zs.take k)) (hi z0 (zs.take k)) 0) (fun _ x6 _ => n - (intOf x6).toNat)
  case atStart => exact ⟨0, rfl, Nat.zero_le _, rfl, HM0.out⟩
  case round =>
    obtain ⟨k, rfl, hkn, rfl, hm⟩ := hrel
    have HM := Lib.hid hm
    clear hm
    by_cases hlt : k < n
    · have hd : decide ((k : Int) < (n : Int)) = true := by simp; omega
      have hd' : decide (k < n) = true := by simp; omega
      have hkl : k < zs.length := by rw [HN.out]; exact hlt
      have c0 := (HM.out.1.cell (p := ⟨b, off + k, none⟩) hbl (fun h => h)).trans (HC.out k hkl)
      have hadd := (sF_ok zs HI.out k (by omega) (by rw [HN.out]; exact h2)).2.2 hkl
      have htk : zs.take (k + 1) = zs.take k ++ [zs[k]] := by rw [List.take_add_one, List.getElem?_eq_getElem hkl]; rfl
      obtain ⟨x, hx⟩ : ∃ x, zs[k] = x := ⟨_, rfl⟩
      have hgx : zs.getD k 0 = x := by rw [← hx]; simp [List.getD, hkl]
      rw [hgx] at c0
      rw [hx] at hadd htk
      have hlo : lo z0 (zs.take (k + 1)) = min (lo z0 (zs.take k)) x := by rw [htk, lo_snoc]
      have hhi : hi z0 (zs.take (k + 1)) = max (hi z0 (zs.take k)) x := by rw [htk, hi_snoc]
      have HGX := Lib.hid hgx
      have HLO := Lib.hid hlo
      have HHI := Lib.hid hhi
      have hA := fun w => run_float_arith (P := Try.prog) w .add 25 .f64 (sF (zs.take k)) (floatOfInt .f64 x) (sF (zs.take (k + 1))) hadd
      clear hx hgx htk hlo hhi hadd
      generalize lo z0 (zs.take k) = l0 at *
      generalize hi z0 (zs.take k) = h0 at *
      have CK := Lib.hid (HC.out k hkl)
      rw [HGX.out] at CK
      obtain ⟨-, c1, c2, -, -, f1, f2, -, -, hwl⟩ := HM.out.reads
      by_cases ha : x < l0
      · have qa : decide (x < l0) = true := by simpa using ha
        go_wp2_with fail
        go_quiet (fail)
        go_wp2_with fail
        obtain ⟨W1, hW1⟩ : ∃ W, W = (wr.drewN nq).setCell ⟨w.heap.size + 1, 1, none⟩ (.int .i64 x) := ⟨_, rfl⟩
        rw [← hW1]
        have HM1 : Hid (MB w W1 n (min l0 x) h0 0) := by
          rw [hW1, show min l0 x = x by omega]
          exact Lib.hid ((HM.out.drewN _).set1 x)
        clear hW1 c1 c2 f1 f2 hwl c0
        have c0 := (HM1.out.1.cell (p := ⟨b, off + k, none⟩) hbl (fun h => h)).trans CK.out
        obtain ⟨-, c1, c2, -, -, f1, f2, -, -, hwl⟩ := HM1.out.reads
        by_cases hb : h0 < x
        · have qb : decide (h0 < x) = true := by simpa using hb
          go_quiet (fail)
          go_wp2_with fail
          go_roundw
          case rel =>
            refine ⟨k + 1, by simp, by omega, rfl, ?_⟩
            rw [HLO.out, HHI.out, show max h0 x = x by omega]
            exact (HM1.out.drewN _).set2 x
          case measure => simp [intOf]; omega
        · have qb : decide (h0 < x) = false := by simpa using hb
          go_quiet (fail)
          go_wp2_with fail
          go_roundw
          case rel =>
            refine ⟨k + 1, by simp, by omega, rfl, ?_⟩
            rw [HLO.out, HHI.out, show max h0 x = h0 by omega]
            exact HM1.out.drewN _
          case measure => simp [intOf]; omega
      · have qa : decide (x < l0) = false := by simpa using ha
        go_wp2_with fail
        go_quiet (fail)
        go_wp2_with fail
        obtain ⟨W1, hW1⟩ : ∃ W, W = wr.drewN nq := ⟨_, rfl⟩
        rw [← hW1]
        have HM1 : Hid (MB w W1 n (min l0 x) h0 0) := by
          rw [hW1, show min l0 x = l0 by omega]
          exact Lib.hid (HM.out.drewN _)
        clear hW1 c1 c2 f1 f2 hwl c0
        have c0 := (HM1.out.1.cell (p := ⟨b, off + k, none⟩) hbl (fun h => h)).trans CK.out
        obtain ⟨-, c1, c2, -, -, f1, f2, -, -, hwl⟩ := HM1.out.reads
        by_cases hb : h0 < x
        · have qb : decide (h0 < x) = true := by simpa using hb
          go_quiet (fail)
          go_wp2_with fail
          go_roundw
          case rel =>
            refine ⟨k + 1, by simp, by omega, rfl, ?_⟩
            rw [HLO.out, HHI.out, show max h0 x = x by omega]
            exact (HM1.out.drewN _).set2 x
          case measure => simp [intOf]; omega
        · have qb : decide (h0 < x) = false := by simpa using hb
          go_quiet (fail)
          go_wp2_with fail
          go_roundw
          case rel =>
            refine ⟨k + 1, by simp, by omega, rfl, ?_⟩
            rw [HLO.out, HHI.out, show max h0 x = h0 by omega]
            exact HM1.out.drewN _
          case measure => simp [intOf]; omega
    · have hd : decide ((k : Int) < (n : Int)) = false := by simp; omega
      have hd' : decide (k < n) = false := by simp; omega
      obtain rfl : n = k := by omega
      have htk : zs.take n = zs := List.take_of_length_le (by have := HN.out; omega)
      rw [htk] at HM ⊢
      have h1' := HMI.out
      have h2' := HMA.out
      rw [HZ0.out] at h1' h2'
      rw [h1', h2'] at HM
      have HTK := Lib.hid htk
      clear h1' h2' htk
      have hm := mF_ok zs HI.out (by rw [HN.out]; exact h1) (by rw [HN.out]; exact h2)
      rw [HN.out] at hm
      have hM := fun w => run_float_arith (P := Try.prog) w .quo 25 .f64 (sF zs) (floatOfInt .f64 n) (mF zs) hm.1
      have HMF := Lib.hid hm
      clear hm
      obtain ⟨-, c1, c2, c3, -, f1, f2, f3, -, hwl⟩ := HM.out.reads
      have HDV := Lib.hid (devF_ok zs HI.out (by rw [HN.out]; exact h1) (by rw [HN.out]; exact h2))
      go_wp2_with fail
      have HM3 := Lib.hid (HM.out.set3 (mF zs))
      clear hM
      go_loopw [8, 9] (fun x8 x9 wr => ∃ (i : Nat), x9 = .int .i64 i ∧ i ≤ n ∧ x8 = .float .f64 (vF (mF zs) (zs.take i)) ∧ MB w wr n (Lib.minOf zs) (Lib.maxOf zs) (mF zs)) (fun _ x9 _ => n - (intOf x9).toNat)
      case atStart => exact ⟨0, rfl, Nat.zero_le _, rfl, HM3.out⟩
      case round =>
        obtain ⟨i, rfl, hin, rfl, hm⟩ := hrel
        clear c1 c2 c3 f1 f2 f3 hwl HM3
        have HM := Lib.hid hm
        clear hm
        by_cases hlt2 : i < n
        · have hd : decide ((i : Int) < (n : Int)) = true := by simp; omega
          have hd' : decide (i < n) = true := by simp; omega
          have hil : i < zs.length := by rw [HN.out]; exact hlt2
          have c0 := (HM.out.1.cell (p := ⟨b, off + i, none⟩) hbl (fun h => h)).trans (HC.out i hil)
          have hx := HI.out zs[i] (List.getElem_mem hil)
          have hadd := (vF_ok (mF zs) HMF.out.2.1 HMF.out.2.2 zs HI.out i (by omega) (by rw [HN.out]; exact h2)).2 hil
          have hS := fun w => run_float_arith (P := Try.prog) w .sub 25 .f64 (floatOfInt .f64 zs[i]) (mF zs) (dF (mF zs) zs[i]) (dF_ok (mF zs) HMF.out.2.1 HMF.out.2.2 zs[i] hx).1
          have hQ := fun w => run_float_arith (P := Try.prog) w .mul 25 .f64 (dF (mF zs) zs[i]) (dF (mF zs) zs[i]) (qF (mF zs) zs[i]) (qF_ok (mF zs) HMF.out.2.1 HMF.out.2.2 zs[i] hx).1
          have hA := fun w => run_float_arith (P := Try.prog) w .add 25 .f64 (vF (mF zs) (zs.take i)) (qF (mF zs) zs[i]) (vF (mF zs) (zs.take (i + 1))) hadd
          have hgx : zs.getD i 0 = zs[i] := by simp [List.getD, hil]
          rw [hgx] at c0
          clear hadd hx hgx
          generalize zs[i] = x at *
          clear hil
          obtain ⟨-, -, -, c3, -, -, -, f3, -, hwl⟩ := HM.out.reads
          go_wp2_with fail
          go_quiet (fail)
          go_wp2_with fail
          go_roundw
          case rel => exact ⟨i + 1, by simp, by omega, rfl, HM.out.drewN _⟩
          case measure => simp [intOf]; omega
        · have hd : decide ((i : Int) < (n : Int)) = false := by simp; omega
          have hd' : decide (i < n) = false := by simp; omega
          obtain rfl : n = i := by omega
          rw [HTK.out]
          obtain ⟨y, hy1, hy2, _⟩ := HDV.out
          rw [HN.out] at hy1
          have hD := fun w => run_float_arith (P := Try.prog) w .quo 25 .f64 (vF (mF zs) zs) (floatOfInt .f64 n) y hy1
          have HY := Lib.hid hy2
          clear hy1 hy2
          obtain ⟨e0, e1, e2, e3, e4, -, -, -, f4, hwl⟩ := HM.out.reads
          have hcm : Chg (fun _ => False) w wr := HM.out.1
          have g0 := HM.out.2.1.cell 0
          have g1 := HM.out.2.1.cell 1
          have g2 := HM.out.2.1.cell 2
          have g3 := HM.out.2.1.cell 3
          have g4 := HM.out.2.1.cell 4
          have h0 := HM.out.2.1.frozen 0
          have h1 := HM.out.2.1.frozen 1
          have h2 := HM.out.2.1.frozen 2
          have h3 := HM.out.2.1.frozen 3
          have h4 := HM.out.2.1.frozen 4
          simp only [List.getElem?_toArray, List.getElem?_cons_succ, List.getElem?_cons_zero] at g0 g1 g2 g3 g4
          go_wp2_with (go_at_call 41; refine (sqrt_any y (devF zs) _ HY.out).mono ?_; rintro r w5 ⟨rfl, rfl⟩)
          refine bodyPost_ret (v := .tuple #[.agg #[.int .i64 n, .int .i64 (Lib.minOf zs), .int .i64 (Lib.maxOf zs), .float .f64 (mF zs), .float .f64 (devF zs)], .int .i64 0]) (by simp [results, Try.results16, go_sem, *]) rfl ⟨rfl, ?_⟩
          repeat (first | (with_reducible exact hcm) | (with_reducible refine Chg.set ?_ (Or.inl (by simp)) _) | (with_reducible refine Chg.alloc ?_ _) | (with_reducible refine Chg.drew ?_))
def ofF (l : List Int) (x : Nat) : Nat := if 4096 < l.length then 0 else if l = [] then 0 else x
def OfPost (l : List Int) (w : World) (e : Ending) (w' : World) : Prop := e = .returned (.tuple #[.agg #[.int .i64 (ofZ l l.length), .int .i64 (ofZ l (Lib.minOf l)), .int .i64 (ofZ l (Lib.maxOf l)), .float .f64 (ofF l (mF l)), .float .f64 (ofF l (devF l))], .int .i64 (ofE l)]) ∧ Chg (fun _ => False) w w'
theorem of_same (A : Option Addr) (n c : Nat) (l : List Int) (w : World) (hs : Sl w A l) (hi : I64 l) (hl : l.length = n) :
    Calls Try.prog 15 #[.slice A n c] w (OfPost l w) := by
  unfold OfPost ofZ ofE ofF
  by_cases h : 4096 < n
  · have h' : 4096 < l.length := by omega
    simp only [if_pos h']
    exact of_many A n c w h
  · have h' : ¬ 4096 < l.length := by omega
    simp only [if_neg h']
    by_cases hne : l = []
    · subst hne
      obtain rfl : n = 0 := by simpa using hl.symm
      simp only [if_pos trivial]
      exact of_none A c w
    · simp only [if_neg hne]
      obtain ⟨b, off, rfl, _, _⟩ := hs.cells hne
      have h1 : 1 ≤ n := by rw [← hl]; cases l with | nil => exact absurd rfl hne | cons => simp
      rw [hl]
      exact of_ok b off n c l w hs hi hl h1 (by omega)
theorem rof_same (A : Option Addr) (n c : Nat) (l : List Int) (w : World) (hs : Sl w A l) (hi : I64 l) (hl : l.length = n) :
    Calls Try.prog 16 #[.slice A n c] w (OfPost l w) := by
  unfold OfPost ofZ ofE ofF
  by_cases h : 4096 < n
  · have h' : 4096 < l.length := by omega
    simp only [if_pos h']
    exact rof_many A n c w h
  · have h' : ¬ 4096 < l.length := by omega
    simp only [if_neg h']
    by_cases hne : l = []
    · subst hne
      obtain rfl : n = 0 := by simpa using hl.symm
      simp only [if_pos trivial]
      exact rof_none A c w
    · simp only [if_neg hne]
      obtain ⟨b, off, rfl, _, _⟩ := hs.cells hne
      have h1 : 1 ≤ n := by rw [← hl]; cases l with | nil => exact absurd rfl hne | cons => simp
      rw [hl]
      exact rof_ok b off n c l w hs hi hl h1 (by omega)
theorem of_floats (l : List Int) (hi : I64 l) : Ieee.double.order (ofF l (mF l)) (ofF l (mF l)) = some .eq ∧ Ieee.double.order (ofF l (devF l)) (ofF l (devF l)) = some .eq := by
  have h0 : Ieee.double.order 0 0 = some .eq := by rw [order_val vu_zero.1 vu_zero.1, compare_self]
  unfold ofF
  by_cases h : 4096 < l.length
  · simp only [if_pos h]; exact ⟨h0, h0⟩
  · by_cases hne : l = []
    · subst hne; exact ⟨h0, h0⟩
    · simp only [if_neg h, if_neg hne]
      have h1 : 1 ≤ l.length := by cases l with | nil => exact absurd rfl hne | cons => simp
      obtain ⟨_, m1, _⟩ := mF_ok l hi h1 (by omega)
      obtain ⟨_, _, _, d⟩ := devF_ok l hi h1 (by omega)
      exact ⟨by rw [order_val m1 m1, compare_self], d⟩
end Go.Proofs.Ytgoimoaeeiobnaa.Ga
