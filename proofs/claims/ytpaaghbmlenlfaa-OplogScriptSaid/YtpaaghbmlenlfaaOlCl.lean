/- A log's clone. -/
import Derived.Test.YtpaaghbmlenlfaaOlLog
import Derived.Test.YtpaaghbmlenlfaaCy
import Derived.Deep.RegionLaw
namespace Go.Proofs.Ytpaaghbmlenlfaa.Ol
open Go.RowKit Go.Hp
attribute [local go_sem] min2_lean min_two max2_lean max_two
set_option linter.unusedSimpArgs false
set_option linter.unusedVariables false
set_option maxRecDepth 100000
theorem cloned_any (s : LogS) (w : World) (hs : s.own.holds w) (hok : s.ok) :
    Calls Try.prog 49 #[.pointer (some ⟨s.g, 1, none⟩)] w fun r w' => ∃ pb, r = .returned (.agg #[.slice (some ⟨pb, 0, none⟩) s.es.length s.es.length, .int .i64 s.first, .int .i64 s.many]) ∧ Turns w w' Own.emp (Own.blk pb (flat s.es).toArray 51) := by
  obtain ⟨c0, c1, c2, c3⟩ := LogS.cells hs
  have l1 := hok.r1
  have l2 := hok.r64
  obtain ⟨i0, hi0, hz0, hz1, hz2⟩ := info_parts Try.info51
  have hgl : s.g < w.heap.size := Blk.lt hs.1
  have hmk := fun W => run_makeN (P := Try.prog) 52 51 i0 (.agg En.zero.cells.toArray) 7 Try.underlying52 hi0 hz0 hz1 .i64 .i64 s.es.length (by rw [hz2]; omega) (by simp only [maxLen]; omega) W
  have Hs := Lib.hid hs
  have Hok := Lib.hid hok
  clear hs hok
  go_enter Try.func49, Try.ntmps49
  go_wp2_with fail
  obtain ⟨w1, hw1⟩ : ∃ W, W = w.alloc (.cells #[.slice none 0 0, .int .i64 0, .int .i64 0] 84) := ⟨_, rfl⟩
  rw [← hw1]
  have hg1 : s.g < w1.heap.size := by rw [hw1]; simp; omega
  have d1 : w1.cell? ⟨s.g, 1, none⟩ = some (.slice (some ⟨s.pb, 0, none⟩) s.es.length s.es.length) := by rw [hw1]; exact (World.cell?_alloc_lt _ _ _ hgl).trans c1
  have d2 : w1.cell? ⟨s.g, 1 + 1, none⟩ = some (.int .i64 s.first) := by rw [hw1]; exact (World.cell?_alloc_lt _ _ _ hgl).trans c2
  have d3 : w1.cell? ⟨s.g, 1 + 2, none⟩ = some (.int .i64 s.many) := by rw [hw1]; exact (World.cell?_alloc_lt _ _ _ hgl).trans c3
  have HT0 : Hid (Turns w w1 Own.emp (Own.blk w.heap.size #[.slice none 0 0, .int .i64 0, .int .i64 0] 84)) := by rw [hw1]; exact Turns.new _ _ _
  have Hs1 : Hid (s.own.holds w1) := by rw [hw1]; exact ((Turns.refl Hs.out).alloc _).now
  clear hw1 c0 c1 c2 c3 Hs
  go_region_held3 (fun w' => w'.cell? ⟨s.g, 1, none⟩ = some (.slice (some ⟨s.pb, 0, none⟩) s.es.length s.es.length) ∧ w'.cell? ⟨s.g, 1 + 1, none⟩ = some (.int .i64 s.first) ∧ w'.cell? ⟨s.g, 1 + 2, none⟩ = some (.int .i64 s.many)) (go_keep) (fail)
  · obtain ⟨W3, hW3⟩ : ∃ W3, W3 = ((w1.alloc (Obj.cells (madeCells En.zero.cells.toArray (s.es.length * 7)) 51)).alloc (Obj.cells #[.slice (some ⟨w1.heap.size, 0, none⟩) s.es.length s.es.length, .int .i64 s.first, .int .i64 s.many] 84)).drew := ⟨_, rfl⟩
    rw [← hW3]
    have HK : Hid (Chg (fun _ => False) w1 W3) := by rw [hW3]; exact (((Chg.refl _ _).alloc _).alloc _).drew
    have hgW : s.g < W3.heap.size := Nat.lt_of_lt_of_le hg1 HK.out.size
    have hpb1 : s.pb < w1.heap.size := Blk.lt Hs1.out.2.1
    have hz0w := Blk.lt HT0.out.now
    have HSP : Hid (Blk W3 s.pb (flat s.es).toArray 51) := Blk.chg Hs1.out.2.1 HK.out (fun h => h)
    have e1 : W3.cell? ⟨s.g, 1, none⟩ = some (.slice (some ⟨s.pb, 0, none⟩) s.es.length s.es.length) := (HK.out.cell (p := ⟨s.g, 1, none⟩) hg1 id).trans d1
    generalize hbig : w1.heap.size + 1 = q at hW3 ⊢
    generalize hsmall : w1.heap.size = p at hW3 ⊢
    have HP : Hid (Blk W3 p (madeCells En.zero.cells.toArray (s.es.length * 7)) 51) := by
      rw [hW3]
      first
      | (rw [← hsmall]; exact ((Blk.new w1 _ _).alloc _).drew)
      | (have := (Blk.new (w1.alloc (.cells #[.slice (some ⟨p, 0, none⟩) s.es.length s.es.length, .int .i64 s.first, .int .i64 s.many] 84)) (madeCells En.zero.cells.toArray (s.es.length * 7)) 51).drew; rw [World.size_alloc, hbig] at this; exact this)
    have HQ : Hid (Blk W3 q #[.slice (some ⟨p, 0, none⟩) s.es.length s.es.length, .int .i64 s.first, .int .i64 s.many] 84) := by
      rw [hW3]
      first
      | (rw [← hsmall]; exact ((Blk.new w1 _ _).alloc _).drew)
      | (have := (Blk.new (w1.alloc (.cells (madeCells En.zero.cells.toArray (s.es.length * 7)) 51)) #[.slice (some ⟨p, 0, none⟩) s.es.length s.es.length, .int .i64 s.first, .int .i64 s.many] 84).drew; rw [World.size_alloc, hbig] at this; exact this)
    clear hW3
    have hpq : p ≠ q := by omega
    have hqp : q ≠ p := by omega
    have hp1 : w1.heap.size ≤ p := by omega
    have hq1 : w1.heap.size ≤ q := by omega
    have hwp : w.heap.size ≠ p := by omega
    have hgp : s.g ≠ p := by omega
    clear hbig hsmall
    have hqW := Blk.lt HQ.out
    have eq0 : W3.cell? ⟨q, 0, none⟩ = some (.slice (some ⟨p, 0, none⟩) s.es.length s.es.length) := HQ.out.cell 0
    go_wp2_with fail
    go_region_held3 (fun w' => w'.cell? ⟨s.g, 1, none⟩ = some (.slice (some ⟨s.pb, 0, none⟩) s.es.length s.es.length) ∧ w'.cell? ⟨q, 0, none⟩ = some (.slice (some ⟨p, 0, none⟩) s.es.length s.es.length)) (go_keep) (first | (refine step_copyB rfl (.tmp 20) (.tmp 24) 52 52 rfl 51 7 Try.underlying52 (by rw [hi0]; simp [hz1]) p s.es.length _ 51 rfl (by exact HP.out) s.pb _ 51 rfl (by exact HSP.out) (by simp [madeCells]) (by simp [flat_len]) (by simpa using flat_one_cell s.es) ?_; intro w4 hs4; replace hs4 := hs4.drewl; have x1 : w4.cell? ⟨s.g, 1, none⟩ = some (.slice (some ⟨s.pb, 0, none⟩) s.es.length s.es.length) := (hs4.chg.cell (p := ⟨s.g, 1, none⟩) hgW hgp).trans e1; have x2 : w4.cell? ⟨q, 0, none⟩ = some (.slice (some ⟨p, 0, none⟩) s.es.length s.es.length) := (hs4.chg.cell (p := ⟨q, 0, none⟩) hqW hqp).trans eq0))
    have HB4 := Lib.hid hs4.blk
    have HQ4 := Lib.hid (Blk.chg (S := (· = p)) HQ.out hs4.chg hqp)
    have y0 : w4.cell? ⟨q, 0, none⟩ = some (.slice (some ⟨p, 0, none⟩) s.es.length s.es.length) := HQ4.out.cell 0
    have y1 : w4.cell? ⟨q, 1, none⟩ = some (.int .i64 s.first) := HQ4.out.cell 1
    have y2 : w4.cell? ⟨q, 2, none⟩ = some (.int .i64 s.many) := HQ4.out.cell 2
    have HW := Lib.hid (Blk.chg (S := (· = p)) (Blk.chg HT0.out.now HK.out (fun h => h)) hs4.chg hwp)
    have z0 : w4.cell? ⟨w.heap.size, 0, none⟩ = some (.slice none 0 0) := HW.out.cell 0
    have z1 : w4.cell? ⟨w.heap.size, 1, none⟩ = some (.int .i64 0) := HW.out.cell 1
    have z2 : w4.cell? ⟨w.heap.size, 2, none⟩ = some (.int .i64 0) := HW.out.cell 2
    have f0 : w4.frozen? ⟨w.heap.size, 0, none⟩ = false := HW.out.frozen 0
    have f1 : w4.frozen? ⟨w.heap.size, 1, none⟩ = false := HW.out.frozen 1
    have f2 : w4.frozen? ⟨w.heap.size, 2, none⟩ = false := HW.out.frozen 2
    have HC4 : Hid (Chg (fun b => w.heap.size ≤ b) w w4) := (HT0.out.chg.mono (fun _ _ h => h.elim)).trans ((HK.out.mono (fun _ _ h => h.elim)).trans (hs4.chg.mono (fun b _ (e : b = p) => by omega)))
    clear hs4 x1 x2 e1 eq0 d1 d2 d3 HK HSP HP HQ hmk
    go_wp2_with fail
    refine bodyPost_ret (v := .agg #[.slice (some ⟨p, 0, none⟩) s.es.length s.es.length, .int .i64 s.first, .int .i64 s.many]) (by simp [results, Try.results49, go_sem, z0, z1, z2]) rfl ⟨p, rfl, ?_⟩
    refine ⟨?_, ?_, fun b (hb : b = p) => Or.inr (by omega)⟩
    · refine Chg.set (Chg.set (Chg.set (HC4.out.mono (fun k hk h => by omega)) (p := ⟨w.heap.size, 0, none⟩) (Or.inl (Nat.le_refl _)) _) (p := ⟨w.heap.size, 1, none⟩) (Or.inl (Nat.le_refl _)) _) (p := ⟨w.heap.size, 2, none⟩) (Or.inl (Nat.le_refl _)) _
    · exact ((HB4.out.set_ne (a := ⟨w.heap.size, 0, none⟩) (Ne.symm hwp) _).set_ne (a := ⟨w.heap.size, 1, none⟩) (Ne.symm hwp) _).set_ne (a := ⟨w.heap.size, 2, none⟩) (Ne.symm hwp) _
  · obtain ⟨W3, hW3⟩ : ∃ W3, W3 = ((w1.alloc (Obj.cells #[.slice (some ⟨w1.heap.size + 1, 0, none⟩) s.es.length s.es.length, .int .i64 s.first, .int .i64 s.many] 84)).alloc (Obj.cells (madeCells En.zero.cells.toArray (s.es.length * 7)) 51)).drew := ⟨_, rfl⟩
    rw [← hW3]
    have HK : Hid (Chg (fun _ => False) w1 W3) := by rw [hW3]; exact (((Chg.refl _ _).alloc _).alloc _).drew
    have hgW : s.g < W3.heap.size := Nat.lt_of_lt_of_le hg1 HK.out.size
    have hpb1 : s.pb < w1.heap.size := Blk.lt Hs1.out.2.1
    have hz0w := Blk.lt HT0.out.now
    have HSP : Hid (Blk W3 s.pb (flat s.es).toArray 51) := Blk.chg Hs1.out.2.1 HK.out (fun h => h)
    have e1 : W3.cell? ⟨s.g, 1, none⟩ = some (.slice (some ⟨s.pb, 0, none⟩) s.es.length s.es.length) := (HK.out.cell (p := ⟨s.g, 1, none⟩) hg1 id).trans d1
    generalize hbig : w1.heap.size + 1 = p at hW3 ⊢
    generalize hsmall : w1.heap.size = q at hW3 ⊢
    have HP : Hid (Blk W3 p (madeCells En.zero.cells.toArray (s.es.length * 7)) 51) := by
      rw [hW3]
      first
      | (rw [← hsmall]; exact ((Blk.new w1 _ _).alloc _).drew)
      | (have := (Blk.new (w1.alloc (.cells #[.slice (some ⟨p, 0, none⟩) s.es.length s.es.length, .int .i64 s.first, .int .i64 s.many] 84)) (madeCells En.zero.cells.toArray (s.es.length * 7)) 51).drew; rw [World.size_alloc, hbig] at this; exact this)
    have HQ : Hid (Blk W3 q #[.slice (some ⟨p, 0, none⟩) s.es.length s.es.length, .int .i64 s.first, .int .i64 s.many] 84) := by
      rw [hW3]
      first
      | (rw [← hsmall]; exact ((Blk.new w1 _ _).alloc _).drew)
      | (have := (Blk.new (w1.alloc (.cells (madeCells En.zero.cells.toArray (s.es.length * 7)) 51)) #[.slice (some ⟨p, 0, none⟩) s.es.length s.es.length, .int .i64 s.first, .int .i64 s.many] 84).drew; rw [World.size_alloc, hbig] at this; exact this)
    clear hW3
    have hpq : p ≠ q := by omega
    have hqp : q ≠ p := by omega
    have hp1 : w1.heap.size ≤ p := by omega
    have hq1 : w1.heap.size ≤ q := by omega
    have hwp : w.heap.size ≠ p := by omega
    have hgp : s.g ≠ p := by omega
    clear hbig hsmall
    have hqW := Blk.lt HQ.out
    have eq0 : W3.cell? ⟨q, 0, none⟩ = some (.slice (some ⟨p, 0, none⟩) s.es.length s.es.length) := HQ.out.cell 0
    go_wp2_with fail
    go_region_held3 (fun w' => w'.cell? ⟨s.g, 1, none⟩ = some (.slice (some ⟨s.pb, 0, none⟩) s.es.length s.es.length) ∧ w'.cell? ⟨q, 0, none⟩ = some (.slice (some ⟨p, 0, none⟩) s.es.length s.es.length)) (go_keep) (first | (refine step_copyB rfl (.tmp 20) (.tmp 24) 52 52 rfl 51 7 Try.underlying52 (by rw [hi0]; simp [hz1]) p s.es.length _ 51 rfl (by exact HP.out) s.pb _ 51 rfl (by exact HSP.out) (by simp [madeCells]) (by simp [flat_len]) (by simpa using flat_one_cell s.es) ?_; intro w4 hs4; replace hs4 := hs4.drewl; have x1 : w4.cell? ⟨s.g, 1, none⟩ = some (.slice (some ⟨s.pb, 0, none⟩) s.es.length s.es.length) := (hs4.chg.cell (p := ⟨s.g, 1, none⟩) hgW hgp).trans e1; have x2 : w4.cell? ⟨q, 0, none⟩ = some (.slice (some ⟨p, 0, none⟩) s.es.length s.es.length) := (hs4.chg.cell (p := ⟨q, 0, none⟩) hqW hqp).trans eq0))
    have HB4 := Lib.hid hs4.blk
    have HQ4 := Lib.hid (Blk.chg (S := (· = p)) HQ.out hs4.chg hqp)
    have y0 : w4.cell? ⟨q, 0, none⟩ = some (.slice (some ⟨p, 0, none⟩) s.es.length s.es.length) := HQ4.out.cell 0
    have y1 : w4.cell? ⟨q, 1, none⟩ = some (.int .i64 s.first) := HQ4.out.cell 1
    have y2 : w4.cell? ⟨q, 2, none⟩ = some (.int .i64 s.many) := HQ4.out.cell 2
    have HW := Lib.hid (Blk.chg (S := (· = p)) (Blk.chg HT0.out.now HK.out (fun h => h)) hs4.chg hwp)
    have z0 : w4.cell? ⟨w.heap.size, 0, none⟩ = some (.slice none 0 0) := HW.out.cell 0
    have z1 : w4.cell? ⟨w.heap.size, 1, none⟩ = some (.int .i64 0) := HW.out.cell 1
    have z2 : w4.cell? ⟨w.heap.size, 2, none⟩ = some (.int .i64 0) := HW.out.cell 2
    have f0 : w4.frozen? ⟨w.heap.size, 0, none⟩ = false := HW.out.frozen 0
    have f1 : w4.frozen? ⟨w.heap.size, 1, none⟩ = false := HW.out.frozen 1
    have f2 : w4.frozen? ⟨w.heap.size, 2, none⟩ = false := HW.out.frozen 2
    have HC4 : Hid (Chg (fun b => w.heap.size ≤ b) w w4) := (HT0.out.chg.mono (fun _ _ h => h.elim)).trans ((HK.out.mono (fun _ _ h => h.elim)).trans (hs4.chg.mono (fun b _ (e : b = p) => by omega)))
    clear hs4 x1 x2 e1 eq0 d1 d2 d3 HK HSP HP HQ hmk
    go_wp2_with fail
    refine bodyPost_ret (v := .agg #[.slice (some ⟨p, 0, none⟩) s.es.length s.es.length, .int .i64 s.first, .int .i64 s.many]) (by simp [results, Try.results49, go_sem, z0, z1, z2]) rfl ⟨p, rfl, ?_⟩
    refine ⟨?_, ?_, fun b (hb : b = p) => Or.inr (by omega)⟩
    · refine Chg.set (Chg.set (Chg.set (HC4.out.mono (fun k hk h => by omega)) (p := ⟨w.heap.size, 0, none⟩) (Or.inl (Nat.le_refl _)) _) (p := ⟨w.heap.size, 1, none⟩) (Or.inl (Nat.le_refl _)) _) (p := ⟨w.heap.size, 2, none⟩) (Or.inl (Nat.le_refl _)) _
    · exact ((HB4.out.set_ne (a := ⟨w.heap.size, 0, none⟩) (Ne.symm hwp) _).set_ne (a := ⟨w.heap.size, 1, none⟩) (Ne.symm hwp) _).set_ne (a := ⟨w.heap.size, 2, none⟩) (Ne.symm hwp) _
/-- A log's clone. -/
theorem clone_any (s : LogS) (w : World) (hs : s.own.holds w) (hok : s.ok) :
    Calls Try.prog 36 #[.pointer (some ⟨s.g, 0, none⟩)] w fun r w' => ∃ g pb, r = .returned (.pointer (some ⟨g, 0, none⟩)) ∧ Turns w w' Own.emp ({ s with g := g, pb := pb } : LogS).own := by
  obtain ⟨c0, c1, c2, c3⟩ := LogS.cells hs
  have hgl : s.g < w.heap.size := Blk.lt hs.1
  have Hs := Lib.hid hs
  have Hok := Lib.hid hok
  clear hs hok c1 c2 c3
  go_enter Try.func36, Try.ntmps36
  go_wp2_with fail
  go_region_held3 (fun w' => w'.cell? ⟨s.g, 0, none⟩ = some (.int .i64 s.base)) (go_keep)
    (first
      | (go_at_call 49; refine (cloned_any s _ (by exact Hs.out) Hok.out).mono ?_; rintro r w1 ⟨pb, rfl, ht⟩; have HT := Lib.hid ht.drewl; have x0 : w1.cell? ⟨s.g, 0, none⟩ = some (.int .i64 s.base) := (ht.chg.cell (p := ⟨s.g, 0, none⟩) hgl id).trans c0))
  go_wp2
  go_ret
  refine ⟨_, pb, rfl, ?_⟩
  have hpl := Blk.lt HT.out.now
  refine ⟨HT.out.chg.alloc _, ⟨Blk.new w1 _ _, HT.out.now.alloc _, ?_⟩, ?_⟩
  · rintro b h1 h2
    have h1 : b = w1.heap.size := h1
    have h2 : b = pb := h2
    omega
  · rintro b (h1 | h1)
    · have h1 : b = w1.heap.size := h1
      exact Or.inr (by have := HT.out.chg.size; omega)
    · exact HT.out.near b h1
end Go.Proofs.Ytpaaghbmlenlfaa.Ol
