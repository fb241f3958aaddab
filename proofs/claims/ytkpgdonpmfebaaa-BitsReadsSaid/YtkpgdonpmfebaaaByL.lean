/- The reference's reader: a number in groups. -/
import Derived.Test.YtkpgdonpmfebaaaBlG
import Derived.Test.YtkpgdonpmfebaaaBwS
import Derived.Lib.Zigzag
namespace Go.Proofs.Ytkpgdonpmfebaaa.Bt
open Go.RowKit Go.Hp
attribute [local go_sem] min2_lean min_two max2_lean max_two
set_option linter.unusedSimpArgs false
set_option linter.unusedVariables false
set_option maxRecDepth 100000

/-- The reference's reader in memory. -/
def RdS.xown (s : RdS) : Hp.Own := Hp.Own.both (Hp.Own.blk s.g #[s.v, .int .i64 s.at_, .int .i64 s.e] 113) (Hp.Own.row 5 1 s.v s.bs.length (s.bs.map bv))
theorem xr_cells {s : RdS} {w : World} (h : s.xown.holds w) : w.cell? ⟨s.g, 0, none⟩ = some s.v ∧ w.cell? ⟨s.g, 1, none⟩ = some (.int .i64 s.at_) ∧ w.cell? ⟨s.g, 2, none⟩ = some (.int .i64 s.e) ∧
    w.frozen? ⟨s.g, 1, none⟩ = false ∧ w.frozen? ⟨s.g, 2, none⟩ = false :=
  ⟨Blk.cell h.1 0, Blk.cell h.1 1, Blk.cell h.1 2, Blk.frozen h.1 1, Blk.frozen h.1 2⟩
theorem xr_form {s : RdS} {w : World} (h : s.xown.holds w) : ∃ A c, s.v = .slice A s.bs.length c := by
  rcases h.2.1.2 with ⟨hv, h0⟩ | ⟨g, cap, cur, hv, _⟩
  · exact ⟨none, 0, by rw [hv, h0]⟩
  · exact ⟨_, _, hv⟩
theorem xr_byte {s : RdS} {w : World} (h : s.xown.holds w) (k : Nat) (hk : k < s.bs.length) : ∃ gv c, s.v = .slice (some ⟨gv, 0, none⟩) s.bs.length c ∧ w.cell? ⟨gv, k, none⟩ = some (bv s.bs[k]) ∧ s.bs.length ≤ c := by
  obtain ⟨gv, c, hv, _, hc⟩ := row_form h.2.1 (by omega)
  refine ⟨gv, c, hv, ?_, hc⟩
  have := World.ownsRow.cells (g := gv) h.2.1 (by rw [hv]; rfl) k (bv s.bs[k]) (by simp [hk])
  have ha : (⟨gv, 0, none⟩ : Addr).add k = ⟨gv, k, none⟩ := by unfold Addr.add; split <;> simp_all
  rwa [ha] at this
theorem xr_setAt {s : RdS} {w : World} (h : s.xown.holds w) (k : Nat) (u : Int) (hu : u = k) : Turns w (w.setCell ⟨s.g, 1, none⟩ (.int .i64 u)) s.xown ({ s with at_ := k } : RdS).xown := by
  subst hu
  have := Turns.bothl h (SetBlk.of_set h.1 1 (.int .i64 k))
  exact this
theorem xr_setE {s : RdS} {w : World} (h : s.xown.holds w) (u : Int) : Turns w (w.setCell ⟨s.g, 2, none⟩ (.int .i64 u)) s.xown ({ s with e := u } : RdS).xown := by
  have := Turns.bothl h (SetBlk.of_set h.1 2 (.int .i64 u))
  exact this
/-- What 'look' tells. -/
def lk (last most : Nat) (bs : List UInt8) (a : Nat) : Nat × Nat × Int :=
  let q := gr (last + 1) most bs (last + 1) 0 0 a
  if q.2.2 = 0 then (q.1, q.2.1 - a, 0) else (0, 0, q.2.2)
theorem drewN_two (w : World) (a b : Nat) : (w.drewN a).drewN b = w.drewN (a + b) := by simp [World.drewN, Nat.add_assoc]
theorem or_look (n z i : Nat) (hz : z < 256) (hn : n < 128 ^ i) (hi : i ≤ 9) (h9 : i = 9 → z % 128 ≤ 1) :
    bits BinOp.or IntKind.u64 (n : Int) (IntKind.u64.wrap ((z : Int) % 128 * 2 ^ (7 * i))) = ((n + (z % 128) * 128 ^ i : Nat) : Int) := by
  have h := or_groups n z i hz hn hi h9
  rw [and127 z hz, show IntKind.u64.wrap (((z % 128 : Nat)) : Int) = (z : Int) % 128 by rw [IntKind.wrap_u64]; omega] at h
  exact h
set_option maxHeartbeats 1000000 in
theorem look_any (s : RdS) (last most : Nat) (w : World) (hs : s.xown.holds w) (ha : s.at_ ≤ s.bs.length) (hl : s.bs.length ≤ 140737488355328) (hm : last ≤ 9) (ht : most ≤ 127) (ht2 : last = 9 → most ≤ 1) :
    Calls Try.prog 82 #[.pointer (some ⟨s.g, 0, none⟩), .int .i64 last, .int .u8 most] w fun r w' =>
      r = .returned (.tuple #[.int .u64 (lk last most s.bs s.at_).1, .int .i64 (lk last most s.bs s.at_).2.1, .int .i64 (lk last most s.bs s.at_).2.2]) ∧ ∃ m, w.drewN m = w' := by
  obtain ⟨g, v, bs, at_, e⟩ := s
  obtain ⟨d0, d1, d2, _, _⟩ := xr_cells hs
  obtain ⟨A, c, hv⟩ := xr_form hs
  simp only [] at d0 d1 d2 hv ha hl
  subst hv
  have HS := Lib.hid hs
  clear hs
  obtain ⟨L, hL⟩ : ∃ L, L = lk last most bs at_ := ⟨_, rfl⟩
  have HL := Lib.hid hL
  simp only []
  rw [← hL]
  clear hL
  obtain ⟨G, hG⟩ : ∃ G, G = gr (last + 1) most bs (last + 1) 0 0 at_ := ⟨_, rfl⟩
  have HG := Lib.hid hG
  have HLG : Hid (L = if G.2.2 = 0 then (G.1, G.2.1 - at_, 0) else (0, 0, G.2.2)) := by
    have := HL.out
    unfold lk at this
    rw [← hG] at this
    exact this
  clear hG HL
  obtain ⟨m, hm'⟩ : ∃ m, bs.length = m := ⟨_, rfl⟩
  have HM := Lib.hid hm'
  rw [hm'] at d0 ha hl
  have HA := Lib.hid ha
  have HC := Lib.hid hl
  clear ha hl hm'
  go_enter Try.func82, Try.ntmps82
  go_wp2_with fail
  go_loopw [9, 10] (fun x9 x10 wr => ∃ (n i : Nat), x9 = .int .u64 n ∧ x10 = .int .i64 i ∧ i ≤ last ∧ n < 128 ^ i ∧ gr (last + 1) most bs (last + 1 - i) i n (at_ + i) = G ∧ ∃ q, w.drewN q = wr) (fun _ x10 _ => last + 1 - (intOf x10).toNat)
  case atStart => exact ⟨0, 0, rfl, rfl, Nat.zero_le _, by simp, HG.out.symm, 0, rfl⟩
  case round =>
    obtain ⟨n, i, rfl, rfl, hi, hn, hg, q, rfl⟩ := hrel
    have HGG := Lib.hid hg
    have HN := Lib.hid hn
    clear hg hn
    have hd : decide ((i : Int) ≤ (last : Int)) = true := by simp; omega
    have hd' : decide (i ≤ last) = true := by simp; omega
    obtain ⟨a, haa⟩ : ∃ a, a = at_ + i := ⟨_, rfl⟩
    have HAA := Lib.hid haa
    have hw1 : IntKind.i64.wrap ((at_ : Int) + (i : Int)) = (a : Int) := by have := HA.out; have := HC.out; rw [IntWalk.i64_in _ (by omega)]; omega
    obtain ⟨k, hk⟩ : ∃ k, last + 1 - i = k + 1 := ⟨last - i, by omega⟩
    rw [hk, ← haa] at HGG
    clear haa
    by_cases hal : a < m
    · have hb1 : decide ((m : Int) ≤ (a : Int)) = false := by simp; omega
      have hb2 : decide (m ≤ a) = false := by simp; omega
      have hix : a < bs.length := by rw [HM.out]; exact hal
      obtain ⟨gv, c', hvv, hcell, hlc⟩ := xr_byte HS.out a hix
      simp only [] at hvv hcell hlc
      obtain ⟨rfl, rfl⟩ : A = Option.some ⟨gv, 0, none⟩ ∧ c = c' := by simpa using hvv
      obtain ⟨z, hz⟩ : ∃ z, bs[a].toNat = z := ⟨_, rfl⟩
      have hz8 : z < 256 := by rw [← hz]; exact bs[a].toNat_lt
      rw [show bv bs[a] = .int .u8 z by rw [← hz]; rfl] at hcell
      have HGG2 : Hid ((if i + 1 = last + 1 ∧ most < z then (0, a + 1, 11) else if 0 < i ∧ z = 0 then (0, a + 1, 12) else if z < 128 then (n + z * 128 ^ i, a + 1, 0) else gr (last + 1) most bs k (i + 1) (n + (z - 128) * 128 ^ i) (a + 1)) = G) := by
        have := HGG.out
        rw [gr, dif_pos hix, hz] at this
        exact this
      clear HGG hz hvv hlc hix
      have hb3 : decide ((a : Int) < (m : Int)) = true := by simp; omega
      have hb4 : decide (a < m) = true := by simp; omega
      by_cases t1 : i = last ∧ most < z
      · obtain ⟨rfl, t1⟩ := t1
        have hd2 : decide ((most : Int) < (z : Int)) = true := by simp; omega
        have hd3 : decide (most < z) = true := by simp; omega
        go_wp2_with fail
        go_quiet (fail)
        go_wp2_with fail
        go_quiet (fail)
        go_wp2_with fail
        go_ret3
        have h1 := HGG2.out
        rw [if_pos ⟨trivial, t1⟩] at h1
        have h3 := HLG.out
        rw [← h1] at h3
        simp at h3
        subst h3
        exact ⟨rfl, _, rfl⟩
      · have HGG3 := HGG2.out
        rw [if_neg (show ¬ (i + 1 = last + 1 ∧ most < z) by omega)] at HGG3
        have HG4 := Lib.hid HGG3
        clear HGG2 HGG3
        have HOR := Lib.hid (or_look n z i hz8 HN.out (by omega) (fun h => by
          have := Nat.mod_lt z (show 0 < 128 by omega)
          have := ht2 (by omega)
          have : z ≤ most := by
            rcases Nat.lt_or_ge most z with h1 | h1
            · exact absurd ⟨by omega, h1⟩ t1
            · exact h1
          omega))
        have HA1 : (i < last ∧ ((i : Int) == (last : Int)) = false) ∨ (i = last ∧ decide (most < z) = false) := by
          by_cases h : i = last
          · right; exact ⟨h, by simp; omega⟩
          · left; exact ⟨by omega, by simp; omega⟩
        have hi10 : i ≤ 9 := by omega
        have HK := Lib.hid hk
        clear hk
        by_cases t3 : z < 128
        · have e1 : decide ((z : Int) < 128) = true := by simp; omega
          have e1' : decide (z < 128) = true := by simp; omega
          by_cases t2 : 0 < i ∧ z = 0
          · have e2 : ((z : Int) == 0) = true := by simp; omega
            have e3 : decide (0 < (i : Int)) = true := by simp; omega
            have e3' : decide (0 < i) = true := by simp; omega
            have HL2 : Hid (L = (0, 0, 12)) := Lib.hid <| by
              have h1 := HG4.out
              rw [if_pos t2] at h1
              have h3 := HLG.out
              rw [← h1] at h3
              simpa using h3
            clear t2 HG4 HLG
            rcases HA1 with ⟨q0, q1⟩ | ⟨rfl, q1⟩
            all_goals
              go_wp2_with fail
              go_quiet (fail)
              go_wp2_with fail
              go_quiet (fail)
              go_wp2_with fail
              go_ret3
              rw [HL2.out]
              exact ⟨rfl, _, rfl⟩
          · have HL2 : Hid (L = (n + (z % 128) * 128 ^ i, i + 1, 0)) := Lib.hid <| by
              have h1 := HG4.out
              rw [if_neg t2, if_pos t3] at h1
              have h3 := HLG.out
              rw [← h1] at h3
              have h4 := HAA.out
              rw [Nat.mod_eq_of_lt t3]
              rw [h3, if_pos rfl]
              simp only [h4]
              rw [show at_ + i + 1 - at_ = i + 1 by omega]
            have HA2 : (((z : Int) == 0) = false ∧ True) ∨ (((z : Int) == 0) = true ∧ decide (0 < i) = false) := by
              by_cases h : z = 0
              · right; exact ⟨by simp; omega, by simp; omega⟩
              · left; exact ⟨by simp; omega, trivial⟩
            clear t2 HG4 HLG
            rcases HA2 with ⟨q2, q3⟩ | ⟨q2, q3⟩ <;> rcases HA1 with ⟨q0, q1⟩ | ⟨rfl, q1⟩
            all_goals
              go_wp2_with fail
              go_quiet (fail)
              go_wp2_with fail
              go_quiet (fail)
              go_wp2_with fail
              go_ret3
              rw [HL2.out]
              have h6 := HOR.out
              refine ⟨?_, _, rfl⟩
              simp [h6]
        · have e1 : decide ((z : Int) < 128) = false := by simp; omega
          have e1' : decide (z < 128) = false := by simp; omega
          rcases HA1 with ⟨q0, q1⟩ | ⟨rfl, q1⟩
          · go_wp2_with fail
            go_quiet (fail)
            go_wp2_with fail
            go_quiet (fail)
            go_wp2_with fail
            go_roundw
            case rel =>
              refine ⟨n + (z % 128) * 128 ^ i, i + 1, by rw [HOR.out], by simp, by omega, ?_, ?_, _, rfl⟩
              · have h1 := HN.out
                have h2 := Nat.mod_lt z (show 0 < 128 by omega)
                have h3 : (z % 128) * 128 ^ i ≤ 127 * 128 ^ i := Nat.mul_le_mul_right _ (by omega)
                rw [Nat.pow_succ]
                omega
              · have h1 := HG4.out
                rw [if_neg (by omega), if_neg t3] at h1
                rw [← h1, show last + 1 - (i + 1) = k by have := HK.out; omega, show z % 128 = z - 128 by omega, show at_ + (i + 1) = a + 1 by have := HAA.out; omega]
            case measure => simp [intOf]; omega
          · exfalso
            simp at q1
            omega
    · have hb1 : decide ((m : Int) ≤ (a : Int)) = true := by simp; omega
      have hb2 : decide (m ≤ a) = true := by simp; omega
      go_wp2_with fail
      go_quiet (fail)
      go_wp2_with fail
      go_ret3
      have h1 := HGG.out
      have h2 := HM.out
      rw [gr, dif_neg (by omega)] at h1
      have h3 := HLG.out
      rw [← h1] at h3
      simp at h3
      subst h3
      exact ⟨rfl, _, (drewN_two _ _ _).symm⟩
end Go.Proofs.Ytkpgdonpmfebaaa.Bt
