/- One item read back: back. -/
import Derived.Test.YtkpgdonpmfebaaaBlG
import Derived.Test.YtkpgdonpmfebaaaBpV
namespace Go.Proofs.Ytkpgdonpmfebaaa.Bt
open Go.RowKit Go.Hp
attribute [local go_sem] min2_lean min_two max2_lean max_two
set_option linter.unusedSimpArgs false
set_option linter.unusedVariables false
set_option maxRecDepth 100000
def RdS.on (r : RdS) (n : Nat) : RdS := { r with at_ := r.at_ + n }
theorem ended_ok (r : RdS) (a : Nat) (he : r.e = 0) : (ItS.mk 0 r a 0).ended = { r with at_ := a } := by rw [ItS.ended, if_pos he, if_pos rfl]
section
variable (r : RdS) (he : r.e = 0) (rest : List UInt8)
include he
theorem back_num (n most : Int) (b : Bool) (s : ByteArray) (h0 : 0 ≤ n) (h1 : n ≤ 9223372036854775807) (hm : n ≤ most) (hd : r.bs.drop r.at_ = enc ⟨1, n, b, s⟩ ++ rest) : r.num most = (n, r.on (enc ⟨1, n, b, s⟩).length) := by
  obtain ⟨k, rfl⟩ : ∃ k : Nat, n = k := ⟨n.toNat, by omega⟩
  have h63 : (2 : Nat) ^ 63 = 9223372036854775808 := by decide
  have h := numOf_vi most 13 k r.bs rest r.at_ (by omega) hm hd
  unfold RdS.num RdS.on
  rw [if_pos he, h, ended_ok r _ he]
  rfl
theorem back_signed (n : Int) (b : Bool) (s : ByteArray) (h0 : -9223372036854775808 ≤ n) (h1 : n ≤ 9223372036854775807) (hd : r.bs.drop r.at_ = enc ⟨2, n, b, s⟩ ++ rest) : r.signed = (n, r.on (enc ⟨2, n, b, s⟩).length) := by
  have h := signed_vi n r.bs rest r.at_ h0 h1 hd
  unfold RdS.signed RdS.on
  rw [if_pos he, h]
  show (if (0 : Int) = 0 then uz (zz n) else 0, (ItS.mk 0 r (r.at_ + (vi (zz n)).length) 0).ended) = _
  rw [if_pos rfl, uz_zz, ended_ok r _ he]
  rfl
theorem back_bool (n : Int) (b : Bool) (s : ByteArray) (hd : r.bs.drop r.at_ = enc ⟨3, n, b, s⟩ ++ rest) : r.bool = (b, r.on (enc ⟨3, n, b, s⟩).length) := by
  have hd2 : r.bs.drop r.at_ = (if b then 1 else 0) :: rest := hd
  have hlt : r.at_ < r.bs.length := by
    rcases Nat.lt_or_ge r.at_ r.bs.length with h | h
    · exact h
    · rw [List.drop_of_length_le h] at hd2; cases b <;> simp at hd2
  have hb : r.bs[r.at_] = if b then 1 else 0 := by
    have : r.bs[r.at_]? = some (if b then 1 else 0) := by
      have h0 : (r.bs.drop r.at_)[0]? = some (if b then 1 else 0) := by rw [hd2]; rfl
      rw [List.getElem?_drop] at h0
      simpa using h0
    rw [List.getElem?_eq_getElem hlt] at this
    exact Option.some.inj this
  have h : boolOf r.bs r.at_ = (b, r.at_ + 1, 0) := by
    unfold boolOf
    rw [dif_pos hlt, hb]
    cases b <;> simp
  unfold RdS.bool RdS.on
  rw [if_pos he, h, ended_ok r _ he]
  cases b <;> rfl
theorem back_some (k n most : Int) (b : Bool) (s : ByteArray) (hk : k = 4 ∨ k = 5) (hg : r.good) (hm : (s.size : Int) ≤ most) (hs : s.size ≤ 140737488351232) (hd : r.bs.drop r.at_ = enc ⟨k, n, b, s⟩ ++ rest) : r.some most = (s.data.toList, r.on (enc ⟨k, n, b, s⟩).length) := by
  have hE : enc ⟨k, n, b, s⟩ = vi s.size ++ s.data.toList := by rcases hk with rfl | rfl <;> rfl
  have hsz : s.data.toList.length = s.size := by rw [Array.length_toList]; rfl
  have h63 : (2 : Nat) ^ 63 = 9223372036854775808 := by decide
  rw [hE, List.append_assoc] at hd
  have h := someOf_vi most s.data.toList r.bs rest r.at_ (by omega) (by rw [hsz]; exact hm) hg.1 (by rw [hsz]; exact hd)
  unfold RdS.some RdS.on
  rw [if_pos he, h, ended_ok r _ he, hE, List.length_append]
  rw [hsz, Nat.add_assoc]
end
theorem back_any (r : RdS) (x : ItA) (rest : List UInt8) (w : World) (hs : r.own.holds w) (hg : r.good) (he : r.e = 0) (hx : x.fits) (h1 : 1 ≤ x.kind) (h2 : x.kind ≤ 5) (h3 : x.kind = 1 → 0 ≤ x.n) (hd : r.bs.drop r.at_ = enc x ++ rest) :
    Calls Try.prog 37 #[.pointer (some ⟨r.g, 0, none⟩), .agg x.cells] w fun q w' => q = .returned (.bool true) ∧ Turns w w' r.own (r.on (enc x).length).own := by
  obtain ⟨k, n, b, s⟩ := x
  obtain ⟨hx1, hx2, hx3⟩ := hx
  simp only [] at hx1 hx2 hx3 h1 h2 h3
  have HS := Lib.hid (Turns.refl hs)
  clear hs
  have hk : k = 1 ∨ k = 2 ∨ k = 3 ∨ k = 4 ∨ k = 5 := by omega
  clear h1 h2 hx1
  have HD := Lib.hid hd
  have HK : Hid (Blk (w.alloc (.cells #[.int .i64 k, .int .i64 n, .bool b, .string s] 36)) w.heap.size #[.int .i64 k, .int .i64 n, .bool b, .string s] 36) := Blk.new _ _ _
  clear hd
  have HE := Lib.hid he
  clear he
  rcases hk with rfl | rfl | rfl | rfl | rfl
  · have hq := back_num r HE.out rest n n b s (h3 rfl) hx2.2 (Int.le_refl _) HD.out
    have HC := fun W h => rnum_all r W h hg n
    rw [hq] at HC
    generalize r.on _ = r' at *
    have HCC := Lib.hid HC
    clear HC hq h3
    simp only [ItA.cells]
    go_enter Try.func37, Try.ntmps37
    go_wp2_with fail
    go_region_held3 (fun w' => w'.cell? ⟨w.heap.size, 1, none⟩ = some (.int .i64 n)) (go_keep)
      (first
        | (go_at_call 38; refine (HCC.out _ (by exact ((HS.out.alloc _).drewN _).now)).mono ?_; rintro q w1 ⟨rfl, ht⟩; have HT := Lib.hid ht; obtain ⟨d0, d1, d2, d3, f0, f1, f2, f3⟩ := (Blk.beside HS.out.now HK.out.drew (by omega) ht).four; clear ht))
    go_wp2_with fail
    go_ret
    exact ⟨by simp, Turns.boxes HS.out.now (((Chg.refl _ _).alloc _).drewN _) HT.out (by (repeat (first | (with_reducible exact Chg.refl _ _) | (with_reducible refine Chg.set ?_ (Or.inr ⟨by first | (simp; done) | (simp; omega), by first | (simp; done) | (simp; omega)⟩) _) | (with_reducible refine Chg.set ?_ (Or.inl (by simp)) _) | (with_reducible refine Chg.alloc ?_ _) | (with_reducible refine Chg.drew ?_) | (with_reducible refine Chg.drewN ?_ _))))⟩
  · have hq := back_signed r HE.out rest n b s hx2.1 hx2.2 HD.out
    have HC := fun W h => rsigned_all r W h hg
    rw [hq] at HC
    generalize r.on _ = r' at *
    have HCC := Lib.hid HC
    clear HC hq h3
    simp only [ItA.cells]
    go_enter Try.func37, Try.ntmps37
    go_wp2_with fail
    go_region_held3 (fun w' => w'.cell? ⟨w.heap.size, 1, none⟩ = some (.int .i64 n)) (go_keep)
      (first
        | (go_at_call 62; refine (HCC.out _ (by exact ((HS.out.alloc _).drewN _).now)).mono ?_; rintro q w1 ⟨rfl, ht⟩; have HT := Lib.hid ht; obtain ⟨d0, d1, d2, d3, f0, f1, f2, f3⟩ := (Blk.beside HS.out.now HK.out.drew (by omega) ht).four; clear ht))
    go_wp2_with fail
    go_ret
    exact ⟨by simp, Turns.boxes HS.out.now (((Chg.refl _ _).alloc _).drewN _) HT.out (by (repeat (first | (with_reducible exact Chg.refl _ _) | (with_reducible refine Chg.set ?_ (Or.inr ⟨by first | (simp; done) | (simp; omega), by first | (simp; done) | (simp; omega)⟩) _) | (with_reducible refine Chg.set ?_ (Or.inl (by simp)) _) | (with_reducible refine Chg.alloc ?_ _) | (with_reducible refine Chg.drew ?_) | (with_reducible refine Chg.drewN ?_ _))))⟩
  · have hq := back_bool r HE.out rest n b s HD.out
    have HC := fun W h => rbool_all r W h hg
    rw [hq] at HC
    generalize r.on _ = r' at *
    have HCC := Lib.hid HC
    clear HC hq h3
    simp only [ItA.cells]
    go_enter Try.func37, Try.ntmps37
    go_wp2_with fail
    go_region_held3 (fun w' => w'.cell? ⟨w.heap.size, 2, none⟩ = some (.bool b)) (go_keep)
      (first
        | (go_at_call 73; refine (HCC.out _ (by exact ((HS.out.alloc _).drewN _).now)).mono ?_; rintro q w1 ⟨rfl, ht⟩; have HT := Lib.hid ht; obtain ⟨d0, d1, d2, d3, f0, f1, f2, f3⟩ := (Blk.beside HS.out.now HK.out.drew (by omega) ht).four; clear ht))
    go_wp2_with fail
    go_ret
    exact ⟨by simp, Turns.boxes HS.out.now (((Chg.refl _ _).alloc _).drewN _) HT.out (by (repeat (first | (with_reducible exact Chg.refl _ _) | (with_reducible refine Chg.set ?_ (Or.inr ⟨by first | (simp; done) | (simp; omega), by first | (simp; done) | (simp; omega)⟩) _) | (with_reducible refine Chg.set ?_ (Or.inl (by simp)) _) | (with_reducible refine Chg.alloc ?_ _) | (with_reducible refine Chg.drew ?_) | (with_reducible refine Chg.drewN ?_ _))))⟩
  · have hq := back_some r HE.out rest 4 n s.size b s (Or.inl rfl) hg (Int.le_refl _) hx3 HD.out
    have HC := fun W h => rtext_all r W h hg s.size
    rw [hq] at HC
    generalize r.on _ = r' at *
    have hst : (⟨s.data.toList.toArray⟩ : ByteArray) = s := by cases s; simp
    rw [hst] at HC
    have HCC := Lib.hid HC
    clear HC hq h3
    simp only [ItA.cells]
    go_enter Try.func37, Try.ntmps37
    go_wp2_with fail
    go_region_held3 (fun w' => w'.cell? ⟨w.heap.size, 3, none⟩ = some (.string s)) (go_keep)
      (first
        | (go_at_call 75; refine (HCC.out _ (by exact ((HS.out.alloc _).drewN _).now)).mono ?_; rintro q w1 ⟨rfl, ht⟩; have HT := Lib.hid ht; obtain ⟨d0, d1, d2, d3, f0, f1, f2, f3⟩ := (Blk.beside HS.out.now HK.out.drew (by omega) ht).four; clear ht))
    go_wp2_with fail
    go_ret
    exact ⟨by simp, Turns.boxes HS.out.now (((Chg.refl _ _).alloc _).drewN _) HT.out (by (repeat (first | (with_reducible exact Chg.refl _ _) | (with_reducible refine Chg.set ?_ (Or.inr ⟨by first | (simp; done) | (simp; omega), by first | (simp; done) | (simp; omega)⟩) _) | (with_reducible refine Chg.set ?_ (Or.inl (by simp)) _) | (with_reducible refine Chg.alloc ?_ _) | (with_reducible refine Chg.drew ?_) | (with_reducible refine Chg.drewN ?_ _))))⟩
  · have hq := back_some r HE.out rest 5 n 9223372036854775807 b s (Or.inr rfl) hg (by omega) hx3 HD.out
    have HC := fun W h => rbytes_all r W h hg 9223372036854775807
    rw [hq] at HC
    generalize r.on _ = r' at *
    have hst : (⟨s.data.toList.toArray⟩ : ByteArray) = s := by cases s; simp
    generalize s.data.toList = l at HC hst
    have HCC := Lib.hid HC
    clear HC hq h3
    simp only [ItA.cells]
    go_enter Try.func37, Try.ntmps37
    go_wp2_with (go_at_call 31; refine (HCC.out _ (by exact (HS.out.alloc _).now)).mono ?_; rintro q w1 ⟨A, c, rfl, ht0⟩; have hcv := conv_src w1 _ _ (Src.of_own ht0.now.1); rw [hst] at hcv; have ht := ht0.dropL; clear ht0; have HT := Lib.hid ht; obtain ⟨d0, d1, d2, d3, f0, f1, f2, f3⟩ := (Blk.beside HS.out.now HK.out (by omega) ht).four; clear ht)
    go_ret
    exact ⟨by simp, Turns.boxes HS.out.now ((Chg.refl _ _).alloc _) HT.out (by (repeat (first | (with_reducible exact Chg.refl _ _) | (with_reducible refine Chg.set ?_ (Or.inr ⟨by first | (simp; done) | (simp; omega), by first | (simp; done) | (simp; omega)⟩) _) | (with_reducible refine Chg.set ?_ (Or.inl (by simp)) _) | (with_reducible refine Chg.alloc ?_ _) | (with_reducible refine Chg.drew ?_) | (with_reducible refine Chg.drewN ?_ _))))⟩
end Go.Proofs.Ytkpgdonpmfebaaa.Bt
