/- Package sheets: what is of other types than the iterator's things; Since. -/
import Derived.Test.YtmpkjfengfgagaaBkI
import Derived.Deep.WholeRow
namespace Go.Proofs.Ytmpkjfengfgagaa.Bk
open Go.Shelf
open Go.RowKit Go.Hp
attribute [local go_sem] min2_lean min_two max2_lean max_two
set_option linter.unusedSimpArgs false
set_option linter.unusedVariables false
set_option maxRecDepth 100000
/-- Its blocks are cells, of other types than the iterator's things. -/
def Typed (O : Hp.Own) : Prop := ∀ w, O.holds w → ∀ b, O.foot b → ∃ cs T fr, w.heap[b]? = some (.cells cs T fr) ∧ T ≠ 135 ∧ T ≠ 143
theorem typed_emp : Typed Hp.Own.emp := fun _ _ _ h => h.elim
theorem typed_blk (g : Nat) (cs : Array Value) (T : TypeId) (h1 : T ≠ 135) (h2 : T ≠ 143) : Typed (Hp.Own.blk g cs T) := fun w h b hb => by cases hb; exact ⟨_, _, _, h, h1, h2⟩
theorem typed_row (E : TypeId) (s : Nat) (v : Value) (n : Nat) (xs : List Value) (h1 : E ≠ 135) (h2 : E ≠ 143) : Typed (Hp.Own.row E s v n xs) := fun w h b hb => by
  rcases h.2 with ⟨hv, _⟩ | ⟨g, cap, cur, hv, _, hg, _⟩
  · have hb : v.ownBlock = some b := hb; rw [hv] at hb; cases hb
  · have hb : v.ownBlock = some b := hb
    rw [hv] at hb
    cases hb
    exact ⟨_, _, _, hg, h1, h2⟩
theorem typed_both {A B : Hp.Own} (hA : Typed A) (hB : Typed B) : Typed (Hp.Own.both A B) := fun w h b hb => hb.elim (hA w h.1 b) (hB w h.2.1 b)
theorem typed_fam {ι : Type} {F : ι → Hp.Own} (h : ∀ i, Typed (F i)) : Typed (Hp.Own.fam F) := fun w hw b hb => by
  obtain ⟨i, hi⟩ := hb
  exact h i w (hw.1 i) b hi
theorem typed_pool (P : Pool) : Typed P.own := fun w h b hb => by
  rcases hb with ⟨s, hs, hf⟩ | ⟨q, hq, rfl⟩
  · obtain ⟨cs, fr, e⟩ := (h.1 s hs).2 b hf
    exact ⟨cs, _, fr, e, by decide, by decide⟩
  · exact ⟨_, _, _, h.2 q hq, by decide, by decide⟩
theorem typed_bk (b : Bk) : Typed b.own := typed_both (typed_blk _ _ _ (by decide) (by decide)) (typed_fam fun k => by
  unfold Bk.fam
  split
  · exact typed_blk _ _ _ (by decide) (by decide)
  · exact typed_emp)
theorem Typed.keep {O : Hp.Own} (h : Typed O) {A B : World} {row : Option Nat} (ho : O.holds A) (hg : A.grownBy B row) (hr : ∀ r, row = some r → ∃ o : Obj, A.heap[r]? = some o ∧ o.isCells = false) : O.holds B :=
  O.stable ho fun b hb => by
    obtain ⟨cs, T, fr, hc, _⟩ := h A ho b hb
    refine hg.block b (Array.getElem?_eq_some_iff.1 hc).1 (fun e => ?_)
    obtain ⟨o, h1, h2⟩ := hr b e.symm
    rw [hc] at h1
    cases h1
    cases h2
theorem Typed.turns {O0 O : Hp.Own} {w X Y : World} {B : Nat} {row : Option Nat} (hc : Typed O) (hw : w.heap.size ≤ B) (h : Turns w X O0 O) (hg : X.grownBy Y row) (hr : ∀ r, row = some r → B ≤ r ∧ ∃ o : Obj, X.heap[r]? = some o ∧ o.isCells = false) : Turns w Y O0 O := by
  refine ⟨⟨hg.os.trans h.chg.os, hg.tape.trans h.chg.tape, hg.output.trans h.chg.output, Nat.le_trans h.chg.size hg.size, fun k hk hn => ?_⟩, hc.keep h.now hg (fun r e => (hr r e).2), h.near⟩
  rw [hg.block k (Nat.lt_of_lt_of_le hk h.chg.size) (fun e => by have := (hr k e.symm).1; omega)]
  exact h.chg.block k hk hn
theorem Typed.keeps {O O' : Hp.Own} {W W' : World} {B : Nat} (hc : Typed O) (hO : O.holds W) (t : Turns W W' O O') : KeepsFrom B W W' :=
  ⟨t.chg.size, fun k o _ h0 ho => by
    rw [t.chg.block k (Array.getElem?_eq_some_iff.1 h0).1 (fun hf => by
      obtain ⟨cs, T, fr, hb, _⟩ := hc W hO k hf
      rw [hb] at h0
      cases h0
      cases ho)]
    exact h0⟩
theorem Typed.kps {O O' : Hp.Own} {W W' : World} {P : Pool} (hc : Typed O) (hO : O.holds W) (t : Turns W W' O O') (hp : P.own.holds W → P.own.holds W') : Kps P W W' :=
  ⟨t.chg.size, hp, fun g cs T hT hb => hb.chg t.chg (fun hf => by
    obtain ⟨cs', T', fr, h1, h2, h3⟩ := hc W hO g hf
    unfold Blk at hb
    rw [hb] at h1
    cases h1
    rcases hT with hT | hT
    · exact h2 hT
    · exact h3 hT)⟩
theorem Pool.le.holds {P P' : Pool} (h : P.le P') {w : World} (hp : P'.own.holds w) : P.own.holds w := ⟨fun s hs => hp.1 s (h.s s hs), fun q hq => hp.2 q (h.q q hq)⟩
/-- What the iterator does first. -/
def StS (P : Pool) (b : Bk) (W W' : World) : Prop := Turns W W' (Hp.Own.both P.own b.own) (Hp.Own.both (P.share b).own b.lent.own)
theorem since_any (g : Nat) (a : Int) (w : World) : Calls Try.prog 13 #[.pointer (some ⟨g, 0, none⟩), .int .i64 a] w fun e w' =>
    e = .returned (.func (.func 65) #[] #[.pointer (some ⟨w.heap.size, 0, none⟩), .pointer (some ⟨w.heap.size + 1, 0, none⟩)]) ∧ w' = (w.alloc (.cells #[.pointer (some ⟨g, 0, none⟩)] 23)).alloc (.cells #[.int .i64 a] 3) := by
  go_enter Try.func13, Try.ntmps13
  go_wp2_with fail
  go_ret
  exact ⟨rfl, rfl⟩
theorem one_bk (n wd : Nat) (pc : Nat → Option Nat) (tp : Nat → Int) (ow : Nat → Bool) : (ofF 138 (bkF n wd pc tp ow)).all (·.oneCell') = true := by
  refine Array.all_eq_true_iff_forall_mem.2 fun v hv => ?_
  unfold ofF at hv
  simp only [List.mem_toArray, List.mem_map] at hv
  obtain ⟨i, _, rfl⟩ := hv
  unfold bkF ptrO
  repeat' split
  all_goals rfl
set_option maxHeartbeats 2000000 in
theorem since_seq {P : Pool} {b : Bk} {A : Ab} {w : World} (his : Bk.Is P b A) (hh : (Hp.Own.both P.own b.own).holds w) (bx ax : Nat) (a : Int) (cb : Blk w bx #[.pointer (some ⟨b.g, 0, none⟩)] 23) (ca : Blk w ax #[.int .i64 a] 3) :
    SeqE Try.prog 65 #[.pointer (some ⟨bx, 0, none⟩), .pointer (some ⟨ax, 0, none⟩)] (encS A.at_) (ElS A.db) (StS P b) (Kps (P.share b)) (fun xs => xs.map (·.1) = newer A.at_ (max a 0) 0 A.n) (fun pre => pre.map (·.1) <+: newer A.at_ (max a 0) 0 A.n) (newer A.at_ (max a 0) 0 A.n).length w := by
  intro l J Jx W hW hJ hJx hY h0
  have hhW : (Hp.Own.both P.own b.own).holds W := Own.chg hh (Chg.of_below hW (fun _ => False)) (fun _ _ h => h)
  have HBX : Hid (Blk W bx #[.pointer (some ⟨b.g, 0, none⟩)] 23) := Lib.hid (cb.below hW cb.lt)
  have HAX : Hid (Blk W ax #[.int .i64 a] 3) := Lib.hid (ca.below hW ca.lt)
  have cbW : W.cell? ⟨bx, 0, none⟩ = some (.pointer (some ⟨b.g, 0, none⟩)) := HBX.out.cell 0
  have caW : W.cell? ⟨ax, 0, none⟩ = some (.int .i64 a) := HAX.out.cell 0
  have HR := Lib.hid (Turns.refl hhW)
  have HIS := Lib.hid his
  have HJ := Lib.hid hJ
  have HY := Lib.hid hY
  have H0 := Lib.hid h0
  have sbx : bx < W.heap.size := lt_blk cbW
  have sax : ax < W.heap.size := lt_blk caW
  have hgbx : bx ≠ b.g := fun e => by
    have h1 := HBX.out
    rw [e] at h1
    have := (h1.inj hhW.2.1.1).2
    exact absurd this (by decide)
  have hgax : ax ≠ b.g := fun e => by
    have h1 := HAX.out
    rw [e] at h1
    have := (h1.inj hhW.2.1.1).2
    exact absurd this (by decide)
  clear his hh hW hJ hJx hY h0 cb ca hhW
  go_enter Try.func65, Try.ntmps65
  go_wp2_with fail
  have HR1 := Lib.hid (HR.out.alloc (.cells #[.func (.yield l) #[] #[]] 143))
  have HYB := Lib.hid (Blk.new W #[.func (.yield l) #[] #[]] 143)
  have HBX1 := Lib.hid (HBX.out.alloc (.cells #[.func (.yield l) #[] #[]] 143))
  have HAX1 := Lib.hid (HAX.out.alloc (.cells #[.func (.yield l) #[] #[]] 143))
  have hgl : b.g < W.heap.size := HR.out.now.2.1.1.lt
  obtain ⟨yb, hyb⟩ : ∃ y, y = W.heap.size := ⟨_, rfl⟩
  rw [← hyb] at HYB ⊢
  have hgyb : yb ≠ b.g := by omega
  obtain ⟨W1, hW1⟩ : ∃ X, X = W.alloc (.cells #[.func (.yield l) #[] #[]] 143) := ⟨_, rfl⟩
  rw [← hW1] at HR1 HYB HBX1 HAX1 ⊢
  clear hW1 cbW caW HR HBX HAX hyb sbx sax hgl
  go_loopw [6] (fun x6 wr => ∃ i : Nat, x6 = .int .i64 i ∧ i ≤ 8 ∧ Turns W wr (Hp.Own.both P.own b.own) (Hp.Own.both P.own (Hp.Own.both (Hp.Own.blk b.g (bkC b.n b.wd (fun k => some (b.pc k)) b.tp (owF b i)) 138) (Hp.Own.fam b.fam))) ∧
    Blk wr yb #[.func (.yield l) #[] #[]] 143 ∧ Blk wr bx #[.pointer (some ⟨b.g, 0, none⟩)] 23 ∧ Blk wr ax #[.int .i64 a] 3) (fun x6 _ => 8 - (intOf x6).toNat)
  case atStart =>
    refine ⟨0, rfl, by omega, ?_, HYB.out, HBX1.out, HAX1.out⟩
    rw [owF_zero]
    exact HR1.out
  case round =>
    obtain ⟨i, rfl, hi, ht, h1, h2, h3⟩ := hrel
    have HT := Lib.hid ht
    have HY1 := Lib.hid h1
    have HB1 := Lib.hid h2
    have HA1 := Lib.hid h3
    have cb : wr.cell? ⟨bx, 0, none⟩ = some (.pointer (some ⟨b.g, 0, none⟩)) := h2.cell 0
    have ca : wr.cell? ⟨ax, 0, none⟩ = some (.int .i64 a) := h3.cell 0
    clear ht h1 h2 h3 HR1 HYB HBX1 HAX1
    by_cases hlt : i < 8
    · have hd : decide ((i : Int) < 8) = true := by simp; omega
      have hd' : decide (i < 8) = true := by simp; omega
      have hi0 : (0 : Int) ≤ (i : Int) := Int.natCast_nonneg _
      have hi1 : (i : Int) < 8 := by omega
      have c2 : wr.cell? ⟨b.g, 138 + i, none⟩ = some (.bool (owF b i i)) := bk_ow HT.out.n10 hlt
      have f2 : wr.frozen? ⟨b.g, 138 + i, none⟩ = false := Blk.frozen HT.out.n10 _
      go_wp2_with fail
      refine ⟨⟨i + 1, by simp, by omega, ?_, HY1.out.set_ne hgyb _, HB1.out.set_ne hgbx _, HA1.out.set_ne hgax _⟩, by simp [intOf]; omega⟩
      have t2 := HT.out.at10 (Turns.blk_set HT.out.n10 (138 + i) (.bool false))
      rw [bk_set_ow hlt, owF_succ] at t2
      exact t2
    · have hd : decide ((i : Int) < 8) = false := by simp; omega
      have hd' : decide (i < 8) = false := by simp; omega
      obtain rfl : i = 8 := by omega
      obtain ⟨L, hL⟩ : ∃ L, L = (ofF 138 (bkF b.n b.wd (fun k => some (b.pc k)) b.tp (owF b 8))).toList := ⟨_, rfl⟩
      have hc : wr.rangeAt b.g 0 L := by rw [hL]; exact ofF_range HT.out.n10 (by omega)
      have HC := Lib.hid hc
      have hLs : L.length = 138 := by rw [hL, Array.length_toList, ofF_size]
      have HL := Lib.hid hL
      have hi : (Try.prog.info? 135).map (·.size) = some 138 := by kernel_rfl
      have HI : Hid ((Try.prog.info? 135).map (·.size) = some L.length) := Lib.hid (by rw [hLs]; exact hi)
      have hst : (storeCells ⟨wr.heap.size, 0, none⟩ L 0).run Try.prog (wr.alloc (.cells Try.zeroCells135 135)) = .ok () (wr.alloc (.cells L.toArray 135)) := by
        refine run_storeCells_new (P := Try.prog) wr 135 Try.zeroCells135 L.toArray (by rw [hi, List.size_toArray, hLs]) (by show Try.zeroCells135.size = L.length; rw [hLs]; kernel_rfl) ?_
        rw [hL]
        simp only [Array.toArray_toList]
        exact one_bk _ _ _ _ _
      have ca' : (wr.alloc (.cells L.toArray 135)).cell? ⟨ax, 0, none⟩ = some (.int .i64 a) := (HA1.out.alloc _).cell 0
      have hsg : StS P b W wr := by
        have t1 := HT.out
        rw [bkC_eight] at t1
        exact share_turn t1
      have hnow : Blk (wr.alloc (.cells L.toArray 135)) wr.heap.size (nowC b.lent) 135 := by
        have h := Blk.new wr L.toArray 135
        have e : L.toArray = nowC b.lent := by
          rw [hL]
          simp only [Array.toArray_toList]
          exact ofF_congr fun j hj => by
            unfold bkF
            by_cases h1 : j < 10
            · simp [h1, Bk.lent]
            · simp [h1, show j < 138 from hj, Bk.lent]
        rw [← e]
        exact h
      have hmom : Mom (P.share b) b.lent wr.heap.size yb l (wr.alloc (.cells L.toArray 135)) := ⟨hnow, HY1.out.alloc _, Own.chg hsg.now.1 ((Chg.refl (fun _ => False) wr).alloc _) (fun _ _ h => h)⟩
      have hJ0 : J [] (wr.alloc (.cells L.toArray 135)) := abides_chg HJ.out (H0.out wr hsg) ((Chg.refl _ wr).alloc _)
      obtain ⟨d, hd6, hwd, _⟩ := wd_pow HIS.out.ok.n1 HIS.out.ok.n64
      have hwb : b.lent.wd = 2 ^ d := by rw [← hwd]; exact HIS.out.ok.wd
      have hpad : newer A.at_ (max a 0) 0 (2 ^ d) = newer A.at_ (max a 0) 0 A.n := by
        refine newer_pad (by omega) (by rw [← hwd, ← HIS.out.n]; exact (wdF_rng HIS.out.ok.n1 HIS.out.ok.n64).1) fun i hi => ?_
        rw [← HIS.out.at_]
        exact HIS.out.ok.hi i (by rw [HIS.out.n]; exact hi)
      have HW := Lib.hid (walk_rec HIS.out.lent (fun k hk => HIS.out.lent.ok.sh k hk rfl) HJ.out HY.out (max a 0) (by omega) d 1 0 (by rw [hwb]; omega) (by rw [hwb]; omega) [] _ hJ0 hmom (by rw [hpad]; exact List.prefix_refl _))
      rw [hpad, show ((1 : Nat) : Int) = 1 from rfl] at HW
      clear hc hL hi hsg hnow hmom hJ0 hwd hwb hpad HJ HY H0 HIS HL HT
      go_wp2_with (first
        | (refine wpList_load_mid rfl 135 (.tmp 17) rfl b.g 0 rfl L _ HC.out Try.underlying135 rfl HI.out ?_)
        | (go_at_call 66; (with_reducible refine HW.out.mono ?_); rintro e W2 ⟨t, rfl, hh⟩; have HH := Lib.hid hh; clear hh))
      refine bodyPost_end (results_none rfl _ _ _) rfl ⟨⟨_, rfl⟩, ?_⟩
      rcases HH.out with ⟨_, xs, h1, h2, _⟩ | ⟨_, xs, h1, h2⟩
      · exact Or.inl ⟨xs, h1, h2⟩
      · exact Or.inr ⟨xs, h1, h2⟩
end Go.Proofs.Ytmpkjfengfgagaa.Bk
