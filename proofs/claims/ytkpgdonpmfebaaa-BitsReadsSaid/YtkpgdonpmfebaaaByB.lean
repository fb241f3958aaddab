/- The reference's reader: Bytes, Text, NewReader. -/
import Derived.Test.YtkpgdonpmfebaaaByM
import Derived.Test.YtkpgdonpmfebaaaAp
import Derived.Deep.RegionLaw
namespace Go.Proofs.Ytkpgdonpmfebaaa.Bt
open Go.RowKit Go.Hp
attribute [local go_sem] min2_lean min_two max2_lean max_two
set_option linter.unusedSimpArgs false
set_option linter.unusedVariables false
set_option maxRecDepth 100000

/-- A slice behind an empty literal, as a step of a region that draws. -/
theorem step_app0 {P : Program} {w w1 : World} {ops : Array Oper} {o : Oper} {a : Act} {K : Act → World → Prop} {Q : Exit → Act → World → Prop} {E : Prop} (hgd : o.guard = none) (s x : Operand) (t : TypeId)
    (ho : o.op = .call { callee := .builtin .append, args := #[s, x], argTypes := #[t, t] })
    (e : TypeId) (i : TypeInfo) (z : Value) (bytes : Nat) (ht : P.underlying t = some (.slice e)) (hi : P.info? e = some i) (hz : i.zero = some z)
    (hsize : i.size = 1) (hby : i.bytes = bytes) (hzs : z.cells.size = 1)
    (b0 : Nat) (hs : a.eval s = .slice (some ⟨b0, 0, none⟩) 0 0) (hT : Turns w w1 Hp.Own.emp (Hp.Own.row e 1 (.slice (some ⟨b0, 0, none⟩) 0 0) 0 [])) (v : Value) (m : Nat) (news : List Value) (hx : a.eval x = v) (hsrc : Src w v m 1 news)
    (h1 : ∀ u ∈ news, u.oneCell' = true) (h63 : m ≤ maxLen) (hbytes : m * bytes ≤ 140737488355328)
    (h : ∀ A c w', Turns w w' Hp.Own.emp (Hp.Own.row e 1 (.slice A m c) m news) → K (a.put o.dst (.slice A m c)) w') :
    if Region.wanted o (yielded ops a.tmps) = true then Oper.wp P o a w1 K Q else E := by
  have hw : Region.wanted o (yielded ops a.tmps) = true := by simp [Region.wanted, hgd]
  rw [if_pos hw]
  have hS : Src w1 v m 1 news := Src.keep hsrc (hT.chg.mono fun _ _ h => h)
  refine wp_append_src _ s x t ho 0 e i z 1 bytes ht hi hz hsize hby hzs (by decide) _ 0 [] hs hT.now v m news hx hS h1 (by omega) (by simpa using hbytes) (Nat.zero_le _) ?_
  intro v' w' ho' hg' hat
  rw [Nat.zero_add, List.nil_append] at ho'
  obtain ⟨A, c, rfl⟩ := row_slice ho'
  exact h A c w' (hT.trans (Turns.row ho' hg' hat))
/-- A piece of a row, as a source. -/
theorem src_cut {w : World} {gv c : Nat} {bs : List UInt8} {m q M n : Nat} (h : w.ownsRow 0 5 1 (.slice (some ⟨gv, 0, none⟩) m c) m (bs.map bv)) (hm : bs.length = m) (hM : q + n = M) (hf : M ≤ m) (hc : m ≤ c) :
    Src w (.slice (if c = q then some ⟨gv, 0, none⟩ else some ⟨gv, q, none⟩) (M - q) (c - q)) n 1 (((bs.drop q).take n).map bv) := by
  have hnn : M - q = n := by omega
  rw [hnn]
  refine ⟨by rw [List.length_map, List.length_take, List.length_drop]; omega, Or.inr ?_⟩
  have hrow := World.ownsRow.cells (g := gv) h rfl
  by_cases hcq : c = q
  · rw [if_pos hcq]
    have h0 : n = 0 := by omega
    subst h0
    exact ⟨_, _, rfl, fun j u hu => by simp at hu⟩
  · rw [if_neg hcq]
    refine ⟨_, _, rfl, fun j u hu => ?_⟩
    have ha1 : (⟨gv, q, none⟩ : Addr).add j = (⟨gv, 0, none⟩ : Addr).add (q + j) := by
      unfold Addr.add
      by_cases h1 : j = 0 <;> by_cases h2 : q + j = 0 <;> simp_all
    rw [ha1]
    refine hrow (q + j) u ?_
    rw [List.getElem?_map] at hu ⊢
    rw [List.getElem?_take] at hu
    split at hu
    · rwa [List.getElem?_drop] at hu
    · simp at hu
theorem lk_full (last most : Nat) (bs : List UInt8) (a : Nat) (h : (lk last most bs a).2.2 = 0) : bs ≠ [] := by
  rintro rfl
  unfold lk at h
  simp only [] at h
  split at h
  · rename_i h1
    rw [gr, dif_neg (by simp)] at h1
    simp at h1
  · rename_i h1; exact h1 h
theorem Hp_row_nil (w : World) : (Hp.Own.row 5 1 (.slice none 0 0) 0 []).holds w := ⟨rfl, Or.inl ⟨rfl, rfl⟩⟩
theorem Turns.with_nil {w w' : World} {O O' : Hp.Own} (h : Turns w w' O O') : Turns w w' O (Hp.Own.both (Hp.Own.row 5 1 (.slice none 0 0) 0 []) O') :=
  ⟨h.chg, ⟨Hp_row_nil _, h.now, fun b hb => by cases hb⟩, fun b hb => hb.elim (fun hb => by cases hb) (h.near b)⟩
section
variable (x : RdS) (w : World) (hs : x.xown.holds w) (hg : x.good)
include hs hg
set_option maxHeartbeats 1000000 in
theorem xbytes_any (most : Int) : Calls Try.prog 32 #[.pointer (some ⟨x.g, 0, none⟩), .int .i64 most] w fun q w' => ∃ A c, q = .returned (.slice A (x.some most).1.length c) ∧
    Turns w w' x.xown (Hp.Own.both (Hp.Own.row 5 1 (.slice A (x.some most).1.length c) (x.some most).1.length ((x.some most).1.map bv)) (x.some most).2.xown) := by
  obtain ⟨g, v, bs, a, e⟩ := x
  obtain ⟨d0, d1, d2, f1, f2⟩ := xr_cells hs
  have HS := Lib.hid hs
  obtain ⟨A, c, hv⟩ := xr_form hs
  simp only [] at d0 d1 d2 f1 f2 hv
  obtain ⟨m, hm⟩ : ∃ m, bs.length = m := ⟨_, rfl⟩
  have HM := Lib.hid hm
  rw [hm] at hv
  subst hv
  by_cases h : e = 0
  · have HO := Lib.hid (look_any (RdS.mk g _ bs a e) 8 127 w hs hg.1 hg.2 (by omega) (by omega) (by omega))
    have hbd := lk_bounds 8 127 bs a hg.1
    have hsm := lk_small bs a
    rw [some_lk _ most h hg.1]
    subst h
    obtain ⟨hga, hl⟩ := hg
    simp only [] at hga hl HO hbd hsm ⊢
    have hno := lk_none 8 127 bs a
    have hfu := lk_full 8 127 bs a
    generalize lk 8 127 bs a = L at *
    obtain ⟨n, k, e⟩ := L
    simp only [] at HO hbd hsm hno hfu ⊢
    rw [hm] at hga hl hbd
    have hcv : IntKind.i64.wrap (n : Int) = (n : Int) := IntWalk.i64_in _ (by omega)
    have hw1 : IntKind.i64.wrap ((m : Int) - (a : Int)) = ((m - a : Nat) : Int) := by rw [IntWalk.i64_in _ (by omega)]; omega
    have hw2 : IntKind.i64.wrap (((m - a : Nat) : Int) - (k : Int)) = ((m - (a + k) : Nat) : Int) := by rw [IntWalk.i64_in _ (by omega)]; omega
    have HEE : Hid (∀ W z, (RdS.mk g (.slice A m c) bs a 0).xown.holds W → Turns W (W.setCell ⟨g, 2, none⟩ (.int .i64 z)) (RdS.mk g (.slice A m c) bs a 0).xown (Hp.Own.both (Hp.Own.row 5 1 (.slice none 0 0) 0 []) (RdS.mk g (.slice A m c) bs a z).xown)) :=
      Lib.hid fun W z h => Turns.with_nil (xr_setE h z)
    clear hs
    by_cases h1 : e = 0
    · subst h1
      simp only [if_true]
      by_cases h2 : most < (n : Int)
      · rw [if_pos h2]
        have e2 : decide (most < (n : Int)) = true := by simpa using h2
        go_enter Try.func32, Try.ntmps32
        go_wp2_with (go_at_call 82; refine HO.out.mono ?_; rintro q w1 ⟨rfl, q1, rfl⟩)
        go_quiet (fail)
        go_wp2_with fail
        go_ret
        refine ⟨none, 0, rfl, Turns.and_then ?_ fun h => HEE.out _ 14 h⟩
        exact (Turns.refl HS.out).drewN _
      · rw [if_neg h2]
        have e2 : decide (most < (n : Int)) = false := by simpa using h2
        rw [HM.out]
        by_cases h3 : m - (a + k) < n
        · rw [if_pos h3]
          have e3 : decide (m - (a + k) < n) = true := by simp; omega
          have e3' : decide (((m - (a + k) : Nat) : Int) < (n : Int)) = true := by simp; omega
          go_enter Try.func32, Try.ntmps32
          go_wp2_with (go_at_call 82; refine HO.out.mono ?_; rintro q w1 ⟨rfl, q1, rfl⟩)
          go_quiet (fail)
          go_wp2_with fail
          go_ret
          refine ⟨none, 0, rfl, Turns.and_then ?_ fun h => HEE.out _ 10 h⟩
          exact (Turns.refl HS.out).drewN _
        · rw [if_neg h3]
          have e3 : decide (m - (a + k) < n) = false := by simp; omega
          have e3' : decide (((m - (a + k) : Nat) : Int) < (n : Int)) = false := by simp; omega
          obtain ⟨q2, hq2⟩ : ∃ q2, a + k = q2 := ⟨_, rfl⟩
          obtain ⟨M, hM⟩ : ∃ M, q2 + n = M := ⟨_, rfl⟩
          have HQ := Lib.hid hq2
          have HMM := Lib.hid hM
          have HC := Lib.hid hl
          have HB : Hid (1 ≤ bs.length) := Lib.hid (List.length_pos_iff.mpr (hfu rfl))
          have hMm : M ≤ m := by omega
          have hqM : q2 ≤ M := by omega
          have hw3 : IntKind.i64.wrap ((a : Int) + (k : Int)) = (q2 : Int) := by rw [IntWalk.i64_in _ (by omega)]; omega
          have hw4 : IntKind.i64.wrap ((q2 : Int) + (n : Int)) = (M : Int) := by rw [IntWalk.i64_in _ (by omega)]; omega
          rw [hq2] at hw2 e3 e3'
          rw [hq2, hM]
          obtain ⟨ls, hls⟩ : ∃ ls, (bs.drop q2).take n = ls := ⟨_, rfl⟩
          have HLS := Lib.hid hls
          have hll : ls.length = n := by rw [← hls, List.length_take, List.length_drop]; omega
          rw [hls, hll]
          have HLL := Lib.hid hll
          clear hls hll
          clear hq2 hM hno hfu
          go_enter Try.func32, Try.ntmps32
          go_wp2_with (go_at_call 82; refine HO.out.mono ?_; rintro q w1 ⟨rfl, q1, rfl⟩)
          go_quiet (fail)
          go_wp2_with fail
          generalize hW : World.setCell _ (⟨g, 1, none⟩ : Addr) _ = W
          have HT : Hid (Turns w W (RdS.mk g (.slice A m c) bs a 0).xown (RdS.mk g (.slice A m c) bs M 0).xown) := Lib.hid <| by
            rw [← hW]
            exact Turns.and_then ((Turns.refl HS.out).drewN _) fun h => xr_setAt (s := RdS.mk g _ bs a 0) h M _ (by simp)
          clear hW d0 d1 d2 f1 f2
          obtain ⟨d0, d1, d2, f1, f2⟩ := xr_cells HT.out.now
          have hlt : g < W.heap.size := Blk.lt HT.out.now.1
          have hro := HT.out.now.2.1
          simp only [] at d0 d1 d2
          have hbl : 1 ≤ bs.length := HB.out
          obtain ⟨gv, c', hvv, _, hlc⟩ := row_form hro hbl
          simp only [] at hvv hlc
          obtain ⟨rfl, rfl⟩ : A = Option.some ⟨gv, 0, none⟩ ∧ c = c' := by simp at hvv; exact ⟨hvv.1, hvv.2.2⟩
          rw [HM.out] at hlc
          have HSRC : Hid (Src W (.slice (if c = q2 then Option.some ⟨gv, 0, none⟩ else Option.some ⟨gv, q2, none⟩) (M - q2) (c - q2)) n 1 (ls.map bv)) := Lib.hid <| by
            have h9 : W.ownsRow 0 5 1 (.slice (Option.some ⟨gv, 0, none⟩) m c) m (bs.map bv) := by
              have := hro
              simp only [HM.out] at this
              exact this
            rw [← HLS.out]
            exact src_cut h9 HM.out HMM.out hMm hlc
          have hMc : M ≤ c := by omega
          clear hro hbl hvv f1 f2 d2
          obtain ⟨i0, hi0, hz0, hz1, hz2⟩ := info_parts Try.info5
          go_region_law (refine step_app0 rfl (.tmp 68) (.tmp 78) 38 rfl 5 i0 (.int .u8 0) 1 Try.underlying38 hi0 hz0 hz1 hz2 rfl _ rfl (by first | (with_reducible exact (Turns.row_lit W Hp.Own.emp #[] 5 1 0 (by simp [maxLen]) rfl).drew) | (with_reducible exact ((Turns.refl (O := Hp.Own.emp) trivial).drew).trans (Turns.row_lit W.drew Hp.Own.emp #[] 5 1 0 (by simp [maxLen]) rfl)) | exact (Turns.row_lit W Hp.Own.emp #[] 5 1 0 (by simp [maxLen]) rfl)) _ n (ls.map bv) rfl HSRC.out (fun u hu => by obtain ⟨b, _, rfl⟩ := List.mem_map.mp hu; rfl) (by have := HC.out; simp only [maxLen]; omega) (by have := HC.out; omega) ?_; intro A5 c5 w5 ht5; have HT5 := Lib.hid ht5; clear ht5)
          all_goals
            clear HSRC
            generalize (if c = q2 then (Option.some ⟨gv, 0, none⟩ : Option Addr) else Option.some ⟨gv, q2, none⟩) = zz
            go_wp2_with fail
            go_ret
            have h8 := HT.out.trans (Turns.addl HT.out.now HT5.out)
            exact ⟨A5, c5, rfl, h8⟩
    · rw [if_neg h1]
      have e1 : (e == 0) = false := by simpa using h1
      obtain ⟨rfl, rfl⟩ := hno h1
      go_enter Try.func32, Try.ntmps32
      go_wp2_with (go_at_call 82; refine HO.out.mono ?_; rintro q w1 ⟨rfl, q1, rfl⟩)
      go_quiet (fail)
      go_wp2_with fail
      go_ret
      refine ⟨none, 0, rfl, Turns.and_then ?_ fun h => HEE.out _ e h⟩
      exact (Turns.refl HS.out).drewN _
  · have e1 : (e == 0) = false := by simpa using h
    have e2 : (e != 0) = true := by simpa using h
    have hF : ∀ v, (RdS.mk g v bs a e).some most = ([], RdS.mk g v bs a e) := by intro v; unfold RdS.some; rw [if_neg h]
    rw [hF]
    clear hs
    go_enter Try.func32, Try.ntmps32
    go_wp2
    go_ret
    exact ⟨none, 0, rfl, Turns.with_nil (Turns.refl HS.out)⟩
end
theorem xtext_any (x : RdS) (w : World) (hs : x.xown.holds w) (hg : x.good) (most : Int) : Calls Try.prog 76 #[.pointer (some ⟨x.g, 0, none⟩), .int .i64 most] w fun q w' => q = .returned (.string ⟨(x.some most).1.toArray⟩) ∧ Turns w w' x.xown (x.some most).2.xown := by
  have HO := Lib.hid (xbytes_any x w hs hg most)
  clear hs
  generalize x.some most = G at *
  obtain ⟨l, x'⟩ := G
  simp only [] at HO ⊢
  obtain ⟨m, hm⟩ : ∃ m, l.length = m := ⟨_, rfl⟩
  have HM := Lib.hid hm
  rw [hm] at HO
  go_enter Try.func76, Try.ntmps76
  go_wp2_with (go_at_call 32; refine HO.out.mono ?_; rintro q w1 ⟨A, c, rfl, ht1⟩; have HT1 := Lib.hid ht1; have hcv := conv_src _ _ l (by rw [HM.out]; exact Src.of_own ht1.now.1); clear ht1)
  go_ret
  refine ⟨rfl, ⟨HT1.out.chg, HT1.out.now.2.1, fun b hb => HT1.out.near b (Or.inr hb)⟩⟩
theorem xnewR_any (A : Option Addr) (c n : Nat) (bs : List UInt8) (w : World) (hn : bs.length = n) (hx : Src w (.slice A n c) n 1 (bs.map bv)) (hl : n ≤ 140737488355328) :
    Calls Try.prog 26 #[.slice A n c] w fun q w' => ∃ g v, q = .returned (.pointer (some ⟨g, 0, none⟩)) ∧ Turns w w' Hp.Own.emp (RdS.mk g v bs 0 0).xown := by
  have HX := Lib.hid hx
  have HN := Lib.hid hn
  have HL := Lib.hid (Turns.row_lit w Hp.Own.emp #[] 5 1 0 (by simp [maxLen]) rfl)
  have HX2 : Hid (Src (w.alloc (.cells #[] 5)) (.slice A n c) n 1 (bs.map bv)) := Lib.hid (Src.keep hx ((Chg.refl (fun _ => False) w).alloc _))
  obtain ⟨i0, hi0, hz0, hz1, hz2⟩ := info_parts Try.info5
  clear hx hn
  go_enter Try.func26, Try.ntmps26
  go_wp2_with (at_builtin; refine wpList_appS _ rfl (.tmp 3) (.tmp 4) 38 rfl 5 i0 (.int .u8 0) 1 1 Try.underlying38 hi0 hz0 hz1 hz2 rfl (by decide) _ 0 [] rfl HL.out.now _ n (bs.map bv) rfl HX2.out (fun u hu => by obtain ⟨b, _, rfl⟩ := List.mem_map.mp hu; rfl) (by simp only [maxLen]; omega) (by omega) ?_; intro A5 c5 w5 ht5; have HT5 := Lib.hid ht5; clear ht5)
  go_ret
  refine ⟨_, rfl, .slice A5 n c5, ?_⟩
  have h5 : Turns w w5 Hp.Own.emp (Hp.Own.row 5 1 (.slice A5 n c5) n (bs.map bv)) := by
    have := HL.out.trans HT5.out
    simpa using this
  have h := h5.trans (Turns.newl h5.now #[.slice A5 n c5, .int .i64 0, .int .i64 0] 113)
  show Turns _ _ _ (Hp.Own.both (Hp.Own.blk _ #[_, _, _] 113) (Hp.Own.row 5 1 _ bs.length _))
  rw [HN.out]
  exact h
end Go.Proofs.Ytkpgdonpmfebaaa.Bt
