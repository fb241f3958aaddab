/- Package sheets: Snap, Apply. -/
import Derived.Test.YtmpkjfengfgagaaBkF
import Derived.Deep.MidRow
namespace Go.Proofs.Ytmpkjfengfgagaa.Bk
open Go.RowKit Go.Hp
attribute [local go_sem] min2_lean min_two max2_lean max_two
set_option linter.unusedSimpArgs false
set_option linter.unusedVariables false
set_option maxRecDepth 100000
/-- The pieces that are the book's own. -/
def Bk.ownL (b : Bk) : List (Nat × Array Value) := ((List.range 8).filter fun k => b.ow k).map fun k => (b.pc k, pcC b.at_ b.dv k)
theorem Bk.mem_ownL {b : Bk} {q : Nat × Array Value} : q ∈ b.ownL ↔ ∃ k, k < 8 ∧ b.ow k = true ∧ q = (b.pc k, pcC b.at_ b.dv k) := by
  unfold Bk.ownL
  simp only [List.mem_map, List.mem_filter, List.mem_range]
  constructor
  · rintro ⟨k, ⟨h1, h2⟩, rfl⟩; exact ⟨k, h1, h2, rfl⟩
  · rintro ⟨k, h1, h2, rfl⟩; exact ⟨k, ⟨h1, h2⟩, rfl⟩
def Pool.share (P : Pool) (b : Bk) : Pool := ⟨P.S, P.Q ++ b.ownL⟩
def Bk.lent (b : Bk) : Bk := { b with ow := fun _ => false }
theorem Pool.le_share (P : Pool) (b : Bk) : P.le (P.share b) := ⟨fun _ h => h, fun _ h => List.mem_append_left _ h⟩
theorem lent_fam (b : Bk) : b.lent.fam = fun _ => Hp.Own.emp := by
  funext k
  unfold Bk.fam
  rw [if_neg]
  rintro ⟨_, h⟩
  cases h
theorem Bk.Is.lent {P : Pool} {b : Bk} {A : Ab} (h : Bk.Is P b A) : Bk.Is (P.share b) b.lent A :=
  ⟨⟨h.ok.n1, h.ok.n64, h.ok.wd, fun k hk _ => by
      cases ho : b.ow k with
      | true => exact List.mem_append_right _ (Bk.mem_ownL.2 ⟨k, hk, ho, rfl⟩)
      | false => exact List.mem_append_left _ (h.ok.sh k hk ho), h.ok.dt, h.ok.tr, h.ok.a0, h.ok.ln, h.ok.hi, h.ok.one⟩, h.n, h.at_⟩
theorem share_turn {P : Pool} {b : Bk} {w W : World} {O M : Hp.Own} (h : Turns w W O (Hp.Own.both P.own (Hp.Own.both M (Hp.Own.fam b.fam)))) : Turns w W O (Hp.Own.both (P.share b).own (Hp.Own.both M (Hp.Own.fam b.lent.fam))) := by
  rw [lent_fam]
  have hq : ∀ q ∈ b.ownL, Blk W q.1 q.2 142 ∧ (Hp.Own.fam b.fam).foot q.1 := fun q hq => by
    obtain ⟨k, hk, ho, rfl⟩ := Bk.mem_ownL.1 hq
    exact ⟨Bk.fam_at h.now.2.1.2.1 hk ho, k, by rw [Bk.fam, if_pos ⟨hk, ho⟩]; rfl⟩
  refine ⟨h.chg, ⟨⟨h.now.1.1, fun q hm => ?_⟩, ⟨h.now.2.1.1, ⟨fun _ => trivial, fun _ _ _ h => h.elim⟩, fun b _ hb => by obtain ⟨_, h⟩ := hb; exact h.elim⟩, fun b' h1 h2 => ?_⟩, fun b' hb => ?_⟩
  · rcases List.mem_append.1 hm with hm | hm
    · exact h.now.1.2 q hm
    · exact (hq q hm).1
  · have h2 : M.foot b' := by
      rcases h2 with h2 | ⟨_, h2⟩
      · exact h2
      · exact h2.elim
    rcases h1 with hs | ⟨q, hm, rfl⟩
    · exact h.now.2.2 b' (Or.inl hs) (Or.inl h2)
    · rcases List.mem_append.1 hm with hm | hm
      · exact h.now.2.2 q.1 (Or.inr ⟨q, hm, rfl⟩) (Or.inl h2)
      · exact h.now.2.1.2.2 q.1 h2 (hq q hm).2
  · refine h.near b' ?_
    rcases hb with (hs | ⟨q, hm, rfl⟩) | hb
    · exact Or.inl (Or.inl hs)
    · rcases List.mem_append.1 hm with hm | hm
      · exact Or.inl (Or.inr ⟨q, hm, rfl⟩)
      · exact Or.inr (Or.inr (hq q hm).2)
    · rcases hb with hb | ⟨_, hb⟩
      · exact Or.inr (Or.inl hb)
      · exact hb.elim
theorem bk_snap (n wd : Nat) (pc : Nat → Option Nat) (tp : Nat → Int) (ow : Nat → Bool) : (Array.foldl (fun (cs : Array Value) x => cs.setIfInBounds x.snd x.fst) Try.zeroCells138 (ofF 138 (bkF n wd pc tp ow)).zipIdx 0 138) = bkC n wd pc tp (fun _ => false) := by
  kernel_rfl
theorem bk_snap' (n wd : Nat) (pc : Nat → Option Nat) (tp : Nat → Int) (ow : Nat → Bool) : (List.foldl (fun (cs : Array Value) x => cs.setIfInBounds x.snd x.fst) Try.zeroCells138 (ofF 138 (bkF n wd pc tp ow)).toList.zipIdx) = bkC n wd pc tp (fun _ => false) := by
  kernel_rfl
/-- While the flags are struck: i of them. -/
def owF (b : Bk) (i j : Nat) : Bool := if j < i then false else b.ow j
theorem owF_zero (b : Bk) : owF b 0 = b.ow := by funext j; simp [owF]
theorem owF_succ (b : Bk) (i : Nat) : (fun j => if j = i then false else owF b i j) = owF b (i + 1) := by
  funext j
  unfold owF
  by_cases e : j = i
  · subst e; simp
  · have : (j < i) ↔ (j < i + 1) := by omega
    simp [e, this]
theorem bkC_eight (b : Bk) (n wd : Nat) (pc : Nat → Option Nat) (tp : Nat → Int) : bkC n wd pc tp (owF b 8) = bkC n wd pc tp (fun _ => false) := ofF_congr fun j hj => by
  unfold bkF
  by_cases h1 : j < 10
  · simp [h1]
  · by_cases h2 : j < 138
    · simp [h1, h2]
    · have h3 : j - 138 < 8 := by omega
      simp [h1, h2, owF, h3]
theorem ofF_range {w : World} {g : Nat} {F : Nat → Value} {k m : Nat} {T : TypeId} (h : Blk w g (ofF k F) T) (hm : m ≤ k) : w.rangeAt g 0 (ofF m F).toList := fun j v hj => by
  have hj' : (ofF m F)[j]? = some v := by simpa using hj
  have hlt : j < m := by
    rcases Nat.lt_or_ge j m with h | h
    · exact h
    · rw [Array.getElem?_eq_none (by rw [ofF_size]; exact h)] at hj'; cases hj'
  rw [ofF_get hlt] at hj'
  rw [Nat.zero_add, h.cell j, ofF_get (by omega)]
  exact hj'
theorem run_tree {w : World} {g : Nat} {F : Nat → Value} {k : Nat} {T : TypeId} (h : Blk w g (ofF k F) T) (hm : 138 ≤ k) : (Instr.loadAt 135 (.pointer (some ⟨g, 0, none⟩))).run Try.prog w = .ok (.agg (ofF 138 F)) w := by
  have hi : (Try.prog.info? 135).map (·.size) = some 138 := by kernel_rfl
  have := run_loadAt_mid (P := Try.prog) w g 0 135 (ofF 138 F).toList _ (ofF_range h hm) Try.underlying135 rfl (by rw [hi, Array.length_toList, ofF_size])
  simpa using this
section
variable {P : Pool} {b : Bk} {A : Ab} {w : World}
set_option maxHeartbeats 2000000 in
theorem snap_any (hh : (Hp.Own.both P.own b.own).holds w) :
    Calls Try.prog 20 #[.pointer (some ⟨b.g, 0, none⟩)] w fun e w' => ∃ g', e = .returned (.pointer (some ⟨g', 0, none⟩)) ∧ Turns w w' (Hp.Own.both P.own b.own) (Hp.Own.both (P.share b).own (Hp.Own.both b.lent.own (Bk.own { b.lent with g := g' }))) := by
  have HR := Lib.hid (Turns.refl hh)
  clear hh
  go_enter Try.func20, Try.ntmps20
  go_wp2_with fail
  go_loopw [4] (fun x4 wr => ∃ i : Nat, x4 = .int .i64 i ∧ i ≤ 8 ∧ Turns w wr (Hp.Own.both P.own b.own) (Hp.Own.both P.own (Hp.Own.both (Hp.Own.blk b.g (bkC b.n b.wd (fun k => some (b.pc k)) b.tp (owF b i)) 138) (Hp.Own.fam b.fam)))) (fun x4 _ => 8 - (intOf x4).toNat)
  case atStart =>
    refine ⟨0, rfl, by omega, ?_⟩
    rw [owF_zero]
    exact HR.out
  case round =>
    obtain ⟨i, rfl, hi, ht⟩ := hrel
    have HT := Lib.hid ht
    clear ht HR
    by_cases hlt : i < 8
    · have hd : decide ((i : Int) < 8) = true := by simp; omega
      have hd' : decide (i < 8) = true := by simp; omega
      have hi0 : (0 : Int) ≤ (i : Int) := Int.natCast_nonneg _
      have hi1 : (i : Int) < 8 := by omega
      have c2 : wr.cell? ⟨b.g, 138 + i, none⟩ = some (.bool (owF b i i)) := bk_ow HT.out.n10 hlt
      have f2 : wr.frozen? ⟨b.g, 138 + i, none⟩ = false := Blk.frozen HT.out.n10 _
      go_wp2_with fail
      refine ⟨⟨i + 1, by simp, by omega, ?_⟩, by simp [intOf]; omega⟩
      have t2 := HT.out.at10 (Turns.blk_set HT.out.n10 (138 + i) (.bool false))
      rw [bk_set_ow hlt, owF_succ] at t2
      exact t2
    · have hd : decide ((i : Int) < 8) = false := by simp; omega
      have hd' : decide (i < 8) = false := by simp; omega
      obtain rfl : i = 8 := by omega
      obtain ⟨L, hL⟩ : ∃ L, L = (ofF 138 (bkF b.n b.wd (fun k => some (b.pc k)) b.tp (owF b 8))).toList := ⟨_, rfl⟩
      have hc : wr.rangeAt b.g 0 L := by rw [hL]; exact ofF_range HT.out.n10 (by omega)
      have HC := Lib.hid hc
      have hLs : L.length = 138 := by rw [hL, Array.length_toList, ofF_size]
      have HL := Lib.hid hL
      have hi : (Try.prog.info? 135).map (·.size) = some 138 := by kernel_rfl
      have HI : Hid ((Try.prog.info? 135).map (·.size) = some L.length) := Lib.hid (by rw [hLs]; exact hi)
      clear hc hL hi
      go_wp2_with (refine wpList_load_mid rfl 135 (.tmp 15) rfl b.g 0 rfl L _ HC.out Try.underlying135 rfl HI.out ?_)
      have e1 := bk_snap' b.n b.wd (fun k => some (b.pc k)) b.tp (owF b 8)
      rw [← HL.out] at e1
      rw [e1]
      have t1 := HT.out
      rw [bkC_eight] at t1
      have t2 := share_turn t1
      have t3 := ((t2.pushT ((fam_nil (ι := Nat) wr).pushT (Turns.blk_new wr (bkC b.n b.wd (fun k => some (b.pc k)) b.tp (fun _ => false)) 138)))).flip
      have t4 := t3.at1 (Turns.swap (Turns.refl t3.n1))
      refine bodyPost_ret (v := .pointer (some ⟨wr.heap.size, 0, none⟩)) (by simp [results, Try.results20, go_sem]) rfl ⟨wr.heap.size, rfl, t4.to ?_⟩
      unfold Bk.own
      rw [show Bk.fam ({ b.lent with g := wr.heap.size } : Bk) = fun _ => Hp.Own.emp from lent_fam { b with g := wr.heap.size }]
      rfl
end
end Go.Proofs.Ytmpkjfengfgagaa.Bk
