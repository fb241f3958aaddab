/- Package sheets: write. -/
import Derived.Test.YtmpkjfengfgagaaBkD
import Derived.Test.YtmpkjfengfgagaaCy
import Derived.Deep.DeepCutAuto
namespace Go.Proofs.Ytmpkjfengfgagaa.Bk
open Go.RowKit Go.Hp
attribute [local go_sem] min2_lean min_two max2_lean max_two
set_option linter.unusedSimpArgs false
set_option linter.unusedVariables false
set_option maxRecDepth 100000
theorem pc_set {at_ : Nat → Int} {dv : Nat → Value} {k r : Nat} (hr : r < 8) (a : Int) (v : Value) :
    ((pcC at_ dv k).setIfInBounds (r * 2) (.int .i64 a)).setIfInBounds (r * 2 + 1) v = pcC (fun j => if j = 8 * k + r then a else at_ j) (fun j => if j = 8 * k + r then v else dv j) k := by
  have h1 : (pcC at_ dv k).setIfInBounds (r * 2) (.int .i64 a) = ofF 16 (fun j => if j = r * 2 then .int .i64 a else pcF at_ dv k j) := ofF_set (by simp) (fun j _ hne => by simp [hne])
  rw [h1]
  refine ofF_set ?_ (fun j hj hne => ?_)
  · have a1 : (r * 2 + 1) % 2 = 1 := by omega
    have a2 : (r * 2 + 1) / 2 = r := by omega
    simp [pcF, a1, a2]
  · by_cases e : j = r * 2
    · subst e
      simp [pcF]
    · rw [if_neg e]
      have a1 : 8 * k + j / 2 ≠ 8 * k + r := by omega
      simp only [pcF, if_neg a1]
theorem pc_ne {at_ : Nat → Int} {dv : Nat → Value} {k k' r : Nat} (hr : r < 8) (hk : k' ≠ k) (a : Int) (v : Value) : pcC (fun j => if j = 8 * k + r then a else at_ j) (fun j => if j = 8 * k + r then v else dv j) k' = pcC at_ dv k' := by
  refine ofF_congr fun j hj => ?_
  have a1 : 8 * k' + j / 2 ≠ 8 * k + r := by omega
  simp only [pcF, if_neg a1]
theorem pc_cells {w : World} {p k r : Nat} {at_ : Nat → Int} {dv : Nat → Value} (h : Blk w p (pcC at_ dv k) 142) (hr : r < 8) : w.cell? ⟨p, r * 2, none⟩ = some (.int .i64 (at_ (8 * k + r))) ∧ w.cell? ⟨p, r * 2 + 1, none⟩ = some (dv (8 * k + r)) := by
  constructor
  · refine ((h.cell (r * 2)).trans (ofF_get (by omega))).trans ?_
    simp [pcF]
  · refine ((h.cell (r * 2 + 1)).trans (ofF_get (by omega))).trans ?_
    have a1 : (r * 2 + 1) % 2 = 1 := by omega
    have a2 : (r * 2 + 1) / 2 = r := by omega
    simp [pcF, a1, a2]
theorem Bk.fam_at {b : Bk} {w : World} (h : (Hp.Own.fam b.fam).holds w) {k : Nat} (hk : k < 8) (ho : b.ow k = true) : Blk w (b.pc k) (pcC b.at_ b.dv k) 142 := by
  have := h.1 k
  rw [Bk.fam, if_pos ⟨hk, ho⟩] at this
  exact this
/-- A sheet is laid down. -/
def Bk.put (b : Bk) (u : Nat) (a : Int) (v : Value) (tp : Nat → Int) : Bk := { b with at_ := fun j => if j = u then a else b.at_ j, dv := fun j => if j = u then v else b.dv j, tp := tp }
theorem Bk.put_fam {b : Bk} {w W : World} {O A : Hp.Own} {k r u : Nat} (h : Turns w W O (Hp.Own.both A (Hp.Own.fam b.fam))) (hk : k < 8) (hr : r < 8) (hu : u = 8 * k + r) (ho : b.ow k = true) (a : Int) (v : Value) (tp : Nat → Int) :
    Turns w ((W.setCell ⟨b.pc k, r * 2, none⟩ (.int .i64 a)).setCell ⟨b.pc k, r * 2 + 1, none⟩ v) O (Hp.Own.both A (Hp.Own.fam (b.put u a v tp).fam)) := by
  have hb := Bk.fam_at h.n1 hk ho
  have t1 := Turns.blk_set hb (r * 2) (.int .i64 a)
  have t2 := t1.trans (Turns.blk_set t1.now (r * 2 + 1) v)
  rw [pc_set hr] at t2
  have t3 := h.at1 (Turns.famE h.n1 k (O := Hp.Own.blk (b.pc k) (pcC b.at_ b.dv k) 142) (by rw [Bk.fam, if_pos ⟨hk, ho⟩]) t2)
  refine t3.to (congrArg (Hp.Own.both A) (Own.fam_as fun j => ?_))
  unfold upd
  by_cases e : j = k
  · subst e
    rw [if_pos rfl, Bk.fam, if_pos ⟨hk, ho⟩]
    subst hu
    rfl
  · rw [if_neg e, Bk.fam, Bk.fam]
    subst hu
    show (if j < 8 ∧ b.ow j = true then _ else _) = (if j < 8 ∧ b.ow j = true then Hp.Own.blk (b.pc j) (pcC (fun i => if i = 8 * k + r then a else b.at_ i) (fun i => if i = 8 * k + r then v else b.dv i) j) 142 else _)
    rw [pc_ne hr e]
theorem src_far {w w' : World} {v : Value} {l : List UInt8} {S : Nat → Prop} (h : Byt w v l) (hc : Chg S w w') (hb : ∀ q, v.ownBlock = some q → q < w.heap.size ∧ ¬ S q) : Byt w' v l :=
  Src.stay h fun b hf => hc.block b (hb b hf).1 (hb b hf).2
theorem pc_one (at_ : Nat → Int) (dv : Nat → Value) (k : Nat) (hd : ∀ i, (dv i).oneCell' = true) : ∀ u ∈ (pcC at_ dv k).toList, u.oneCell' = true := fun u hu => by
  unfold pcC ofF at hu
  simp only [List.mem_map] at hu
  obtain ⟨i, _, rfl⟩ := hu
  unfold pcF
  split
  · rfl
  · exact hd _
/-- A shared piece is copied and becomes the book's own. -/
theorem Bk.own_turn {b : Bk} {w W W2 : World} {O A : Hp.Own} {k p : Nat} {cs0 : Array Value} (h : Turns w W O (Hp.Own.both (Hp.Own.blk p cs0 142) (Hp.Own.both A b.own))) (hk : k < 8) (ho : b.ow k = false) (hs : SetBlk W W2 p (pcC b.at_ b.dv k) 142) :
    Turns w ((W2.setCell ⟨b.g, 2 + k, none⟩ (.pointer (some ⟨p, 0, none⟩))).setCell ⟨b.g, 138 + k, none⟩ (.bool true)) O (Hp.Own.both A ({ b with pc := fun j => if j = k then p else b.pc j, ow := fun j => if j = k then true else b.ow j } : Bk).own) := by
  have t1 := h.at0 (Turns.of_setBlk hs)
  have t2 := t1.flip
  have t3 := (t2.at1 (Turns.flip (Turns.refl t2.n1)))
  have t4 := t3.at10 (Turns.blk_set t3.n10 (2 + k) (.pointer (some ⟨p, 0, none⟩)))
  have e4 : b.main.setIfInBounds (2 + k) (.pointer (some ⟨p, 0, none⟩)) = bkC b.n b.wd (fun j => if j = k then some p else some (b.pc j)) b.tp b.ow := bk_set_pc hk p
  rw [e4] at t4
  have t5 := t4.at10 (Turns.blk_set t4.n10 (138 + k) (.bool true))
  rw [bk_set_ow hk] at t5
  have t6 := t5.at2 (fam_lay k (Turns.refl t5.n11))
  refine t6.to ?_
  unfold Bk.own Bk.main
  have e1 : (fun j => if j = k then some p else some (b.pc j)) = fun j => some (if j = k then p else b.pc j) := by funext j; split <;> rfl
  have e2 : upd b.fam k (Hp.Own.blk p (pcC b.at_ b.dv k) 142) = ({ b with pc := fun j => if j = k then p else b.pc j, ow := fun j => if j = k then true else b.ow j } : Bk).fam := by
    funext j
    unfold upd
    by_cases e : j = k
    · subst e
      rw [if_pos rfl, Bk.fam]
      show _ = if j < 8 ∧ (if j = j then true else b.ow j) = true then Hp.Own.blk (if j = j then p else b.pc j) (pcC b.at_ b.dv j) 142 else _
      rw [if_pos rfl, if_pos rfl, if_pos ⟨hk, rfl⟩]
    · rw [if_neg e, Bk.fam, Bk.fam]
      show _ = if j < 8 ∧ (if j = k then true else b.ow j) = true then Hp.Own.blk (if j = k then p else b.pc j) (pcC b.at_ b.dv j) 142 else _
      rw [if_neg e, if_neg e]
  rw [e1, e2]
theorem Try.info140 : (Try.prog.info? 140).map (fun i => (i.zero, i.size, i.bytes)) = some (some (.agg #[.int .i64 0, .slice none 0 0]), 2, 32) := by kernel_rfl
set_option maxHeartbeats 4000000 in
theorem write_any (P : Pool) (b : Bk) (u k r : Nat) (a : Int) (A : Option Addr) (n c : Nat) (l : List UInt8) (w : World) (h : (Hp.Own.both P.own b.own).holds w) (hu : u = 8 * k + r) (hk : k < 8) (hr : r < 8) (hsh : b.ow k = false → (b.pc k, pcC b.at_ b.dv k) ∈ P.Q) (hone : ∀ i, (b.dv i).oneCell' = true) (hun : u < b.wd) (hwd : b.wd ≤ 64) (ht : Tree b.wd b.tp b.at_)
    (hx : Byt w (.slice A n c) l) (hxb : ∀ w', Chg (Hp.Own.both P.own b.own).foot w w' → Byt w' (.slice A n c) l) (hn : n ≤ 2304) :
    Calls Try.prog 73 #[.pointer (some ⟨b.g, 0, none⟩), .int .i64 u, .int .i64 a, .slice A n c] w fun e w' => e = .returned (.tuple #[]) ∧ ∃ (v : Value) (b' : Bk), b'.g = b.g ∧ b'.n = b.n ∧ b'.wd = b.wd ∧ b'.at_ = (fun j => if j = u then a else b.at_ j) ∧ b'.dv = (fun j => if j = u then v else b.dv j) ∧ Tree b.wd b'.tp (fun j => if j = u then a else b.at_ j) ∧
      (∀ j, j < 8 → b'.ow j = false → b.ow j = false ∧ j ≠ k ∧ b'.pc j = b.pc j) ∧ v.oneCell' = true ∧ Turns w w' (Hp.Own.both P.own b.own) (Hp.Own.both (P.add v l).own b'.own) := by
  have H0 := Lib.hid (Turns.refl h)
  have HX := Lib.hid hx
  have HT := Lib.hid ht
  have huk : u / 8 = k := by omega
  have hur : u % 8 = r := by omega
  have q1 : Int.tdiv (u : Int) 8 = (k : Int) := by rw [← huk]; rfl
  have hk1 : (k : Int) < 8 := by omega
  have hk0 : (0 : Int) ≤ (k : Int) := Int.natCast_nonneg _
  have w1 : IntKind.i64.wrap (k : Int) = (k : Int) := IntWalk.i64_in _ (by omega)
  obtain ⟨x, hxe⟩ : ∃ x, x = b.wd + u := ⟨_, rfl⟩
  have hx128 : x < 128 := by omega
  have wx : IntKind.i64.wrap ((b.wd : Int) + (u : Int)) = (x : Int) := by rw [hxe, IntWalk.i64_in _ (by omega)]; omega
  obtain ⟨y, hye⟩ : ∃ y, y = x / 2 := ⟨_, rfl⟩
  have qx : Int.tdiv (x : Int) 2 = (y : Int) := by rw [hye]; rfl
  have wy : IntKind.i64.wrap (y : Int) = (y : Int) := IntWalk.i64_in _ (by omega)
  have hx0 : (0 : Int) ≤ (x : Int) := Int.natCast_nonneg _
  have hx1 : (x : Int) < 128 := by omega
  have HXE := Lib.hid hxe
  have HYE := Lib.hid hye
  have HU := Lib.hid hu
  have hu64 : u < 64 := by omega
  have HSHK := Lib.hid hsh
  have HUR := Lib.hid (And.intro huk hur)
  have HXB := Lib.hid hxb
  have HONE := Lib.hid hone
  have hgw : b.g < w.heap.size := Blk.lt h.2.1.1
  clear ht hu hxe hye hsh huk hur hxb hone hx
  obtain ⟨i0, hi0, hza0, hzb0, hzc0⟩ := info_parts Try.info140
  have c1 : w.cell? ⟨b.g, 138 + k, none⟩ = some (.bool (b.ow k)) := bk_ow (h.2.1.1) hk
  obtain ⟨o, ho⟩ : ∃ o, o = b.ow k := ⟨_, rfl⟩
  rw [← ho] at c1
  have HO' := Lib.hid ho
  clear ho
  go_enter Try.func73, Try.ntmps73
  go_upto_if 19 with fail
  go_cut [] (fun wz => ∃ b1 : Bk, b1.g = b.g ∧ b1.n = b.n ∧ b1.wd = b.wd ∧ b1.tp = b.tp ∧ b1.at_ = b.at_ ∧ b1.dv = b.dv ∧ b1.ow k = true ∧ (∀ j, j < 8 → b1.ow j = false → b.ow j = false ∧ j ≠ k ∧ b1.pc j = b.pc j) ∧ Turns w wz (Hp.Own.both P.own b.own) (Hp.Own.both P.own b1.own) ∧ Byt wz (.slice A n c) l)
  case first =>
    cases o with
    | true =>
      have HO := Lib.hid HO'.out.symm
      clear h HO'
      go_wp2_with fail
      go_meet
      exact ⟨b, rfl, rfl, rfl, rfl, rfl, rfl, HO.out, fun j hj h => ⟨h, (fun e => by rw [e, HO.out] at h; cases h), rfl⟩, H0.out, HX.out⟩
    | false =>
      have HO := Lib.hid HO'.out.symm
      clear HO'
      have c2 : w.cell? ⟨b.g, 2 + k, none⟩ = some (.pointer (some ⟨b.pc k, 0, none⟩)) := bk_pc h.2.1.1 hk
      have HQ : Hid (Blk w (b.pc k) (pcC b.at_ b.dv k) 142) := Lib.hid (h.1.2 _ (HSHK.out HO.out))
      clear h
      go_wp2_with fail
      have HT1 := Lib.hid (H0.out.push #[.int .i64 0, .slice none 0 0, .int .i64 0, .slice none 0 0, .int .i64 0, .slice none 0 0, .int .i64 0, .slice none 0 0, .int .i64 0, .slice none 0 0, .int .i64 0, .slice none 0 0, .int .i64 0, .slice none 0 0, .int .i64 0, .slice none 0 0] 142)
      have HQ1 := Lib.hid (HQ.out.alloc (.cells #[.int .i64 0, .slice none 0 0, .int .i64 0, .slice none 0 0, .int .i64 0, .slice none 0 0, .int .i64 0, .slice none 0 0, .int .i64 0, .slice none 0 0, .int .i64 0, .slice none 0 0, .int .i64 0, .slice none 0 0, .int .i64 0, .slice none 0 0] 142))
      have c2' := (World.cell?_alloc_some w ⟨b.g, 2 + k, none⟩ (.cells #[.int .i64 0, .slice none 0 0, .int .i64 0, .slice none 0 0, .int .i64 0, .slice none 0 0, .int .i64 0, .slice none 0 0, .int .i64 0, .slice none 0 0, .int .i64 0, .slice none 0 0, .int .i64 0, .slice none 0 0, .int .i64 0, .slice none 0 0] 142) (by rw [c2]; rfl)).trans c2
      obtain ⟨p, hp⟩ : ∃ p, p = w.heap.size := ⟨_, rfl⟩
      have hbp : b.g ≠ p := by omega
      rw [← hp] at HT1 ⊢
      obtain ⟨W1, hW1⟩ : ∃ W, W = w.alloc (.cells #[.int .i64 0, .slice none 0 0, .int .i64 0, .slice none 0 0, .int .i64 0, .slice none 0 0, .int .i64 0, .slice none 0 0, .int .i64 0, .slice none 0 0, .int .i64 0, .slice none 0 0, .int .i64 0, .slice none 0 0, .int .i64 0, .slice none 0 0] 142) := ⟨_, rfl⟩
      rw [← hW1] at HT1 HQ1 c2' ⊢
      clear c1 c2 hW1 HQ hp
      have hgW : b.g < W1.heap.size := Blk.lt HT1.out.n11.1
      go_region_held3 (fun w' => w'.cell? ⟨b.g, 2 + k, none⟩ = some (.pointer (some ⟨b.pc k, 0, none⟩))) (go_keep) (first
        | (refine step_copyB rfl (.tmp 20) (.tmp 29) 194 194 rfl 140 2 Try.underlying194 (by rw [hi0]; simp [hzb0]) p 8 _ 142 rfl (by exact HT1.out.b0.drew) (b.pc k) _ 142 rfl (by exact HQ1.out.drew) rfl (ofF_size _ _) (pc_one _ _ _ HONE.out) ?_; intro w2 hs2; have HS2 := Lib.hid hs2; have c3 : w2.cell? ⟨b.g, 2 + k, none⟩ = some (.pointer (some ⟨b.pc k, 0, none⟩)) := (hs2.chg.cell (p := ⟨b.g, 2 + k, none⟩) hgW (fun e => hbp e)).trans c2'; clear hs2))
      have HT2 := Lib.hid (Bk.own_turn HT1.out hk HO.out HS2.out.drewl)
      have HG2 : Hid (Blk w2 b.g b.main 138) := Lib.hid (HT1.out.n11.1.chg HS2.out.drewl.chg hbp)
      have c3 : w2.cell? ⟨b.g, 2 + k, none⟩ = some (.pointer (some ⟨b.pc k, 0, none⟩)) := bk_pc HG2.out hk
      have c4 : w2.cell? ⟨b.g, 138 + k, none⟩ = some (.bool (b.ow k)) := bk_ow HG2.out hk
      have f3 : w2.frozen? ⟨b.g, 2 + k, none⟩ = false := Blk.frozen HG2.out _
      have f4 : w2.frozen? ⟨b.g, 138 + k, none⟩ = false := Blk.frozen HG2.out _
      clear c2' HT1 HQ1 HG2 hgW
      have HX2 : Hid (Byt ((w2.setCell ⟨b.g, 2 + k, none⟩ (.pointer (some ⟨p, 0, none⟩))).setCell ⟨b.g, 138 + k, none⟩ (.bool true)) (.slice A n c) l) := Lib.hid (HXB.out _ HT2.out.chg)
      go_wp2_with fail
      go_meet
      refine ⟨{ b with pc := fun j => if j = k then p else b.pc j, ow := fun j => if j = k then true else b.ow j }, rfl, rfl, rfl, rfl, rfl, rfl, if_pos rfl, fun j hj h => ?_, HT2.out, HX2.out⟩
      have h : (if j = k then true else b.ow j) = false := h
      by_cases e : j = k
      · rw [if_pos e] at h; cases h
      · rw [if_neg e] at h; exact ⟨h, e, if_neg e⟩
  case rest =>
    obtain ⟨b1, e1, e2, e3, e4, e5, e6, ho, hsh1, ht1, hx1'⟩ := hcut
    have E1 := Lib.hid e1
    have E2 := Lib.hid e2
    have E3 := Lib.hid e3
    have E5 := Lib.hid e5
    have E6 := Lib.hid e6
    have HSH1 := Lib.hid hsh1
    have HT' : Hid (Tree b1.wd b1.tp b1.at_) := Lib.hid (by rw [e3, e4, e5]; exact HT.out)
    clear HT H0 HX c1
    have H0 := Lib.hid ht1
    have HT := HT'
    have hun : u < b1.wd := by rw [e3]; exact hun
    have hwd : b1.wd ≤ 64 := by rw [e3]; exact hwd
    have HXE' : Hid (x = b1.wd + u) := Lib.hid (by rw [e3]; exact HXE.out)
    clear HXE
    have HXE := HXE'
    have wx' : IntKind.i64.wrap ((b1.wd : Int) + (u : Int)) = (x : Int) := by rw [e3]; exact wx
    rw [← e1]
    have HSH := Lib.hid (sheet_any b1.g u (b1.pc k) _ (by omega) (by rw [HUR.out.1]; exact bk_pc ht1.n1.1 hk))
    rw [HUR.out.2] at HSH
    have HCL := Lib.hid (clone_any A n c l _ hx1' (by omega))
    clear e1 e2 e3 e4 e5 e6 hsh1 ht1 hx1' HT' HXE' h
    go_wp2_with (first
      | (go_at_call 68; (with_reducible refine HSH.out.mono ?_); rintro r1 w1' ⟨rfl, hq⟩; have hq := hq.symm; subst hq)
      | (go_at_call 69; (with_reducible refine HCL.out.mono ?_); rintro r2 w2 ⟨A2, cc, rfl, hln, t2⟩; have HT2 := Lib.hid (Pool.turn_add (H0.out.pushT t2) hln); clear t2; obtain ⟨p0, p1⟩ := pc_cells (r := r) (Bk.fam_at HT2.out.n1.2.1 hk ho) hr; have f0 : w2.frozen? ⟨b1.pc k, r * 2, none⟩ = false := Blk.frozen (Bk.fam_at HT2.out.n1.2.1 hk ho) _; have f1 : w2.frozen? ⟨b1.pc k, r * 2 + 1, none⟩ = false := Blk.frozen (Bk.fam_at HT2.out.n1.2.1 hk ho) _; have g1 : w2.cell? ⟨b1.g, 1, none⟩ = some (.int .i64 b1.wd) := bk_wd HT2.out.n1.1; have gx : w2.cell? ⟨b1.g, 10 + x, none⟩ = some (.int .i64 (b1.tp x)) := bk_tp HT2.out.n1.1 hx128; have gf : w2.frozen? ⟨b1.g, 10 + x, none⟩ = false := Blk.frozen HT2.out.n1.1 _; have hne : b1.pc k ≠ b1.g := (fun e => HT2.out.n1.2.2 b1.g rfl ⟨k, by rw [Bk.fam, if_pos ⟨hk, ho⟩]; exact e.symm⟩); have hne' := hne.symm))
    have t3 := HT2.out.at1 (Bk.put_fam (u := u) (Turns.refl HT2.out.n1) hk hr HU.out ho a (.slice A2 n cc) b1.tp)
    have t4 := t3.at10 (Turns.blk_set t3.n10 (10 + x) (.int .i64 a))
    have em : b1.main.setIfInBounds (10 + x) (.int .i64 a) = bkC b1.n b1.wd (fun j => some (b1.pc j)) (fun j => if j = x then a else b1.tp j) b1.ow := bk_set_tp hx128 a
    rw [em] at t4
    have HT4 : Hid (Turns w (((w2.setCell ⟨b1.pc k, r * 2, none⟩ (.int .i64 a)).setCell ⟨b1.pc k, r * 2 + 1, none⟩ (.slice A2 n cc)).setCell ⟨b1.g, 10 + x, none⟩ (.int .i64 a)) (Hp.Own.both P.own b.own) (Hp.Own.both (P.add (.slice A2 n cc) l).own (b1.put u a (.slice A2 n cc) (fun j => if j = x then a else b1.tp j)).own)) := Lib.hid t4
    have HTB : Hid (TreeB b1.wd (fun j => if j = x then a else b1.tp j) (fun j => if j = u then a else b1.at_ j) y) := Lib.hid (by
      have h := HT.out.put hun a
      rw [HYE.out, HXE.out]
      exact h)
    have hyw : y < b1.wd := by have := HXE.out; have := HYE.out; omega
    clear t3 t4 em
    obtain ⟨W4, hW4⟩ : ∃ W, W = ((w2.setCell ⟨b1.pc k, r * 2, none⟩ (.int .i64 a)).setCell ⟨b1.pc k, r * 2 + 1, none⟩ (.slice A2 n cc)).setCell ⟨b1.g, 10 + x, none⟩ (.int .i64 a) := ⟨_, rfl⟩
    rw [← hW4] at HT4 ⊢
    clear hW4 p0 p1 f0 f1 g1 gx gf hne hne'
    go_loopw [10] (fun x10 wr => ∃ (y : Nat) (tp : Nat → Int), x10 = .int .i64 y ∧ y < b1.wd ∧ TreeB b1.wd tp (fun j => if j = u then a else b1.at_ j) y ∧ Turns w wr (Hp.Own.both P.own b.own) (Hp.Own.both (P.add (.slice A2 n cc) l).own (b1.put u a (.slice A2 n cc) tp).own)) (fun x10 _ => (intOf x10).toNat)
    case atStart => exact ⟨y, _, rfl, hyw, HTB.out, HT4.out⟩
    case round =>
      clear HT4 HTB hyw wx qx wy hx0 hx1
      obtain ⟨y, tp, rfl, hyw, htb, ht⟩ := hrel
      have HB := Lib.hid htb
      have HT5 := Lib.hid ht
      clear htb ht
      by_cases h0 : 0 < y
      · have d0 : decide ((0 : Int) < (y : Int)) = true := by simp; omega
        have d0' : decide (0 < y) = true := by simp; omega
        obtain ⟨y2, hy2⟩ : ∃ z, z = 2 * y := ⟨_, rfl⟩
        obtain ⟨y3, hy3⟩ : ∃ z, z = y2 + 1 := ⟨_, rfl⟩
        obtain ⟨yh, hyh⟩ : ∃ z, z = y / 2 := ⟨_, rfl⟩
        have l2 : y2 < 128 := by omega
        have l3 : y3 < 128 := by omega
        have l1 : y < 128 := by omega
        have i2 : (y2 : Int) < 128 := by omega
        have i3 : (y3 : Int) < 128 := by omega
        have i1 : (y : Int) < 128 := by omega
        have i20 : (0 : Int) ≤ (y2 : Int) := Int.natCast_nonneg _
        have i30 : (0 : Int) ≤ (y3 : Int) := Int.natCast_nonneg _
        have i10 : (0 : Int) ≤ (y : Int) := Int.natCast_nonneg _
        have v2 : IntKind.i64.wrap ((2 : Int) * (y : Int)) = (y2 : Int) := by rw [IntWalk.i64_in _ (by omega)]; omega
        have v3 : IntKind.i64.wrap ((y2 : Int) + 1) = (y3 : Int) := by rw [IntWalk.i64_in _ (by omega)]; omega
        have qh : Int.tdiv (y : Int) 2 = (yh : Int) := by rw [hyh]; rfl
        have vh : IntKind.i64.wrap (yh : Int) = (yh : Int) := IntWalk.i64_in _ (by omega)
        have c2 : wr.cell? ⟨b1.g, 10 + y2, none⟩ = some (.int .i64 (tp y2)) := bk_tp HT5.out.n1.1 l2
        have c3 : wr.cell? ⟨b1.g, 10 + y3, none⟩ = some (.int .i64 (tp y3)) := bk_tp HT5.out.n1.1 l3
        have c1 : wr.cell? ⟨b1.g, 10 + y, none⟩ = some (.int .i64 (tp y)) := bk_tp HT5.out.n1.1 l1
        have f1 : wr.frozen? ⟨b1.g, 10 + y, none⟩ = false := Blk.frozen HT5.out.n1.1 _
        have ne2 : y2 ≠ y := by omega
        have ne3 : y3 ≠ y := by omega
        have nA2 : (⟨b1.g, 10 + y, none⟩ : Addr) ≠ ⟨b1.g, 10 + y2, none⟩ := by first | (simp; done) | (simp; omega)
        have nA3 : (⟨b1.g, 10 + y, none⟩ : Addr) ≠ ⟨b1.g, 10 + y3, none⟩ := by first | (simp; done) | (simp; omega)
        have HY := Lib.hid (show y2 = 2 * y ∧ y3 = 2 * y + 1 ∧ yh = y / 2 by omega)
        clear hy2 hy3 hyh
        go_wp2_with fail
        go_region_held3 (fun w' => w'.cell? ⟨b1.g, 10 + y2, none⟩ = some (.int .i64 (tp y2)) ∧ w'.cell? ⟨b1.g, 10 + y3, none⟩ = some (.int .i64 (tp y3))) (first | assumption | (simp only [World.cell?_drew, World.cell?_drewN, World.cell?_setCell_other _ _ _ _ nA2, World.cell?_setCell_other _ _ _ _ nA3]; exact ⟨c2, c3⟩)) (fail)
        go_wp2_with fail
        go_roundw
        case rel =>
          obtain ⟨e2, e3, e4⟩ := HY.out
          subst e2; subst e3; subst e4
          refine ⟨y / 2, _, rfl, by omega, HB.out.up h0 hyw, ?_⟩
          have t6 := HT5.out.at10 (Turns.blk_set HT5.out.n10 (10 + y) (.int .i64 (max (tp (2 * y)) (tp (2 * y + 1)))))
          have em : (b1.put u a (.slice A2 n cc) tp).main.setIfInBounds (10 + y) (.int .i64 (max (tp (2 * y)) (tp (2 * y + 1)))) = bkC b1.n b1.wd (fun j => some (b1.pc j)) (fun j => if j = y then max (tp (2 * y)) (tp (2 * y + 1)) else tp j) b1.ow := bk_set_tp l1 _
          rw [em] at t6
          exact t6.drew
        case measure =>
          obtain ⟨e2, e3, e4⟩ := HY.out
          simp [intOf]
          omega
      · have h00 : y = 0 := by omega
        have d0 : decide ((0 : Int) < (y : Int)) = false := by simp; omega
        have d0' : decide (0 < y) = false := by simp; omega
        subst h00
        go_wp2_with fail
        refine bodyPost_end (results_none rfl _ _ _) rfl ⟨rfl, .slice A2 n cc, b1.put u a (.slice A2 n cc) tp, E1.out, E2.out, E3.out, ?_, ?_, ?_, HSH1.out, rfl, HT5.out⟩
        · rw [← E5.out]; rfl
        · rw [← E6.out]; rfl
        · rw [← E3.out, ← E5.out]; exact HB.out.done

end Go.Proofs.Ytmpkjfengfgagaa.Bk
