/- The gauge: some, share; what Of measures. -/
import Derived.Test.YtgoimoaeeiobnaaGaSt
import Derived.Test.YtgoimoaeeiobnaaGaFm
import Derived.WalkLawsBesides
import Derived.Laws.FloatArith
import Derived.BigQuiet
import Derived.Deep.QuietTactic
import Derived.StillTailTactics
namespace Go.Proofs.Ytgoimoaeeiobnaa.Ga
open Go.RowKit Go.Hp Go.Fl
set_option linter.unusedSimpArgs false
set_option linter.unusedVariables false
set_option maxRecDepth 100000
theorem run_store_float {P : Program} {w : World} {a : Addr} {m : Mode} (k : FloatKind) (n : Nat) : (store a (.float k n) m).run P w = stored P w a (.float k n) m := run_store P w a _ m rfl
attribute [local go_sem] run_store_float
theorem stop_ {p : Prop} (h : Hid p) : p := Hid.out h
theorem some_ok (A : Option Addr) (n c : Nat) (w : World) (h1 : 1 ≤ n) (h2 : n ≤ 4096) : Calls Try.prog 38 #[.slice A n c] w fun e w' => e = .returned (.int .i64 0) ∧ w = w' := by
  have d1 : decide ((4096 : Int) < (n : Int)) = false := by simp; omega
  have d1' : decide (4096 < n) = false := by simp; omega
  have d2 : ((n : Int) == 0) = false := by simp; omega
  go_enter Try.func38, Try.ntmps38
  go_wp2
  go_ret
  exact ⟨rfl, rfl⟩
theorem some_many (A : Option Addr) (n c : Nat) (w : World) (h : 4096 < n) : Calls Try.prog 38 #[.slice A n c] w fun e w' => e = .returned (.int .i64 220) ∧ w = w' := by
  have d1 : decide ((4096 : Int) < (n : Int)) = true := by simp; omega
  have d1' : decide (4096 < n) = true := by simp; omega
  go_enter Try.func38, Try.ntmps38
  go_wp2
  go_ret
  exact ⟨rfl, rfl⟩
theorem some_none (A : Option Addr) (c : Nat) (w : World) : Calls Try.prog 38 #[.slice A 0 c] w fun e w' => e = .returned (.int .i64 222) ∧ w = w' := by
  go_enter Try.func38, Try.ntmps38
  go_wp2
  go_ret
  exact ⟨rfl, rfl⟩
/-- May it be a share? -/
def shareB (p : Nat) : Bool := (Ieee.double.order p 0 == some Ordering.gt) && (Ieee.double.order p 4607182418800017408 == some Ordering.lt || Ieee.double.order p 4607182418800017408 == some Ordering.eq)
theorem share_any (p : Nat) (w : World) : Calls Try.prog 42 #[.float .f64 p] w fun e w' => e = .returned (.bool (shareB p)) ∧ w = w' := by
  go_enter Try.func42, Try.ntmps42
  go_wp2
  · have h : Ieee.double.order p 0 = some Ordering.gt := by assumption
    go_ret
    refine ⟨?_, rfl⟩
    unfold shareB
    rw [h]
    rfl
  · have h : ¬ Ieee.double.order p 0 = some Ordering.gt := by assumption
    go_ret
    refine ⟨?_, rfl⟩
    unfold shareB
    have : (Ieee.double.order p 0 == some Ordering.gt) = false := by simpa using h
    rw [this]
    simp [FloatKind.format, this]
/-- The sum, as floats add up. -/
def sF (zs : List Int) : Nat := zs.foldl (fun s x => (Ieee.double.add s (fi x)).getD 0) 0
theorem sF_snoc (zs : List Int) (x : Int) : sF (zs ++ [x]) = (Ieee.double.add (sF zs) (fi x)).getD 0 := by unfold sF; rw [List.foldl_append]; rfl
def I64 (zs : List Int) : Prop := ∀ x ∈ zs, -9223372036854775808 ≤ x ∧ x ≤ 9223372036854775807
theorem ok_mul63 {k : Nat} (h : k ≤ 4096) : Ok (k * 2 ^ 63 * un) := ok_shift (by omega) (by omega)
theorem sF_ok (zs : List Int) (h : I64 zs) (k : Nat) (hk : k ≤ zs.length) (hl : zs.length ≤ 4096) : Fnt (sF (zs.take k)) ∧ (vu (sF (zs.take k))).natAbs ≤ k * 2 ^ 63 * un ∧
    (∀ hk2 : k < zs.length, Ieee.double.add (sF (zs.take k)) (fi zs[k]) = some (sF (zs.take (k + 1)))) := by
  induction k with
  | zero =>
    have h0 : sF (zs.take 0) = 0 := rfl
    have hf : Fnt 0 := by unfold Fnt inf; omega
    have hv : vu 0 = 0 := by unfold vu; rw [if_neg (by omega), Nat.zero_mod, xr_zero]; rfl
    rw [h0, hv]
    refine ⟨hf, by simp, fun hk2 => ?_⟩
    have hx := h zs[0] (List.getElem_mem hk2)
    have hfi := fi_val zs[0] (by omega)
    have hle := fi_le zs[0] (by omega)
    obtain ⟨r, hr, _⟩ := add_val hf hfi.1 (by rw [hv, Int.zero_add]; exact (rd_le (B := 1 * 2 ^ 63 * un) (ok_mul63 (by omega)) (by rw [Nat.one_mul]; exact hle)).2)
    have e : zs.take (0 + 1) = zs.take 0 ++ [zs[0]] := by rw [List.take_add_one, List.getElem?_eq_getElem hk2]; rfl
    rw [e, sF_snoc, h0, hr]
    rfl
  | succ k ih =>
    obtain ⟨i1, i2, i3⟩ := ih (by omega)
    have hk3 := i3 (by omega)
    have hx := h zs[k] (List.getElem_mem (by omega))
    have hfi := fi_val zs[k] (by omega)
    have hle := fi_le zs[k] (by omega)
    have hB : (vu (sF (zs.take k)) + vu (fi zs[k])).natAbs ≤ (k + 1) * 2 ^ 63 * un := by
      have h1 := Int.natAbs_add_le (vu (sF (zs.take k))) (vu (fi zs[k]))
      have h2 : (k + 1) * 2 ^ 63 * un = k * 2 ^ 63 * un + 2 ^ 63 * un := by rw [Nat.add_mul, Nat.one_mul, Nat.add_mul]
      omega
    obtain ⟨r, hr, hr1, hr2, _⟩ := add_val i1 hfi.1 (rd_le (ok_mul63 (by omega)) hB).2
    rw [hk3] at hr
    obtain rfl : sF (zs.take (k + 1)) = r := by simpa using hr
    refine ⟨hr1, by rw [hr2]; exact (rd_le (ok_mul63 (by omega)) hB).1, fun hk2 => ?_⟩
    have hx := h zs[k + 1] (List.getElem_mem hk2)
    have hfi := fi_val zs[k + 1] (by omega)
    have hle := fi_le zs[k + 1] (by omega)
    have hv : (vu (sF (zs.take (k + 1)))).natAbs ≤ (k + 1) * 2 ^ 63 * un := by rw [hr2]; exact (rd_le (ok_mul63 (by omega)) hB).1
    have hB2 : (vu (sF (zs.take (k + 1))) + vu (fi zs[k + 1])).natAbs ≤ (k + 2) * 2 ^ 63 * un := by
      have h1 := Int.natAbs_add_le (vu (sF (zs.take (k + 1)))) (vu (fi zs[k + 1]))
      have h2 : (k + 2) * 2 ^ 63 * un = (k + 1) * 2 ^ 63 * un + 2 ^ 63 * un := by rw [show k + 2 = k + 1 + 1 by omega, Nat.add_mul (k + 1), Nat.one_mul, Nat.add_mul]
      omega
    obtain ⟨r, hr, _⟩ := add_val hr1 hfi.1 (rd_le (ok_mul63 (by omega)) hB2).2
    have e : zs.take (k + 1 + 1) = zs.take (k + 1) ++ [zs[k + 1]] := by rw [List.take_add_one, List.getElem?_eq_getElem hk2]; rfl
    rw [e, sF_snoc, hr]
    rfl
theorem run_sqrt (x r : Nat) (w : World) (h : Ieee.double.sqrt x = some r) : (callFunc 54 #[.float .f64 x]).run Try.prog w = .ok (.value (.float .f64 r)) w := by
  rw [run_callFunc_extern (P := Try.prog) (e := Extern.MathSqrt.sqrt) Try.func54 (by kernel_rfl) (by kernel_rfl) (by kernel_rfl) (by kernel_rfl) #[.float .f64 x] w]
  have e : FloatKind.f64.format.sqrt x = some r := h
  have e0 : Extern.MathSqrt.sqrt #[.float .f64 x] = (match FloatKind.f64.format.sqrt x with | some r => (pure (Value.float .f64 r) : Sem Value) | none => (do pure (Value.float .f64 (← choose (.nanBits .f64 x x))))) := rfl
  rw [e0, e]
  rfl
theorem sqrt_any (x r : Nat) (w : World) (h : Ieee.double.sqrt x = some r) : Calls Try.prog 41 #[.float .f64 x] w fun e w' => e = .returned (.float .f64 r) ∧ w = w' := by
  have hr := run_sqrt x r w h
  clear h
  go_enter Try.func41, Try.ntmps41
  go_wp2
  go_ret
  exact ⟨rfl, rfl⟩
/-- The mean, the squares' sum, the deviation, as floats. -/
def mF (zs : List Int) : Nat := (Ieee.double.div (sF zs) (fi zs.length)).getD 0
def dF (m : Nat) (x : Int) : Nat := (Ieee.double.sub (fi x) m).getD 0
def qF (m : Nat) (x : Int) : Nat := (Ieee.double.mul (dF m x) (dF m x)).getD 0
def vF (m : Nat) (zs : List Int) : Nat := zs.foldl (fun v x => (Ieee.double.add v (qF m x)).getD 0) 0
def devF (zs : List Int) : Nat := (Ieee.double.sqrt ((Ieee.double.div (vF (mF zs) zs) (fi zs.length)).getD 0)).getD 0
theorem vF_snoc (m : Nat) (zs : List Int) (x : Int) : vF m (zs ++ [x]) = (Ieee.double.add (vF m zs) (qF m x)).getD 0 := by unfold vF; rw [List.foldl_append]; rfl
theorem ok_pow (e : Nat) (h : e ≤ 800) : Ok (2 ^ e * un) := by have := ok_shift (m := 1) (e := e) (by omega) h; rwa [Nat.one_mul] at this
theorem fi_ge {n : Nat} (h1 : 1 ≤ n) (h2 : n ≤ 4096) : Fnt (fi n) ∧ un ≤ (vu (fi n)).natAbs ∧ fi n / 2 ^ 63 % 2 = 0 := by
  have hf := fi_val (n : Int) (by simp; omega)
  refine ⟨hf.1, ?_, ?_⟩
  · rw [fi_exact (n : Int) (by simp; omega), mul_un_natAbs]
    simp
    exact Nat.le_mul_of_pos_left un h1
  · have := hf.2.2 (by omega)
    rw [Nat.div_eq_of_lt this]
theorem mF_ok (zs : List Int) (h : I64 zs) (h1 : 1 ≤ zs.length) (h2 : zs.length ≤ 4096) : Ieee.double.div (sF zs) (fi zs.length) = some (mF zs) ∧ Fnt (mF zs) ∧ (vu (mF zs)).natAbs ≤ 2 ^ 76 * un := by
  obtain ⟨s1, s2, _⟩ := sF_ok zs h zs.length (Nat.le_refl _) h2
  rw [List.take_length] at s1 s2
  obtain ⟨f1, f2, f3⟩ := fi_ge h1 h2
  obtain ⟨u, k, b, d1, d2, d3⟩ := div_val s1 f1 f2
  have hB : k * 2 ^ b ≤ 2 ^ 76 * un := by
    have e : zs.length * 2 ^ 63 * un ≤ 2 ^ 75 * un := Nat.mul_le_mul_right _ (by omega)
    have e2 : 2 ^ 76 * un = 2 * (2 ^ 75 * un) := by rw [← Nat.mul_assoc]
    omega
  have hn := nearest_of (u := u) (ok_pow 76 (by omega)) hB
  have hm : mF zs = Ieee.double.nearest u k ((b : Int) - 4000) := by unfold mF; rw [d1]; rfl
  rw [hm]
  exact ⟨d1, hn.1, hn.2.1⟩
theorem dF_ok (m : Nat) (hm : Fnt m) (hm2 : (vu m).natAbs ≤ 2 ^ 76 * un) (x : Int) (hx : -9223372036854775808 ≤ x ∧ x ≤ 9223372036854775807) :
    Ieee.double.sub (fi x) m = some (dF m x) ∧ Fnt (dF m x) ∧ (vu (dF m x)).natAbs ≤ 2 ^ 77 * un := by
  have hf := fi_val x (by omega)
  have hl := fi_le x (by omega)
  have hB : (vu (fi x) - vu m).natAbs ≤ 2 ^ 77 * un := by
    have h1 := Int.natAbs_sub_le (vu (fi x)) (vu m)
    have e : 2 ^ 63 * un ≤ 2 ^ 76 * un := Nat.mul_le_mul_right _ (by omega)
    have e2 : 2 ^ 77 * un = 2 ^ 76 * un + 2 ^ 76 * un := by rw [← Nat.add_mul]
    omega
  have hr := rd_le (ok_pow 77 (by omega)) hB
  obtain ⟨r, r1, r2, r3⟩ := sub_val hf.1 hm hr.2
  have hd : dF m x = r := by unfold dF; rw [r1]; rfl
  rw [hd]
  exact ⟨r1, r2, by rw [r3]; exact hr.1⟩
theorem qF_ok (m : Nat) (hm : Fnt m) (hm2 : (vu m).natAbs ≤ 2 ^ 76 * un) (x : Int) (hx : -9223372036854775808 ≤ x ∧ x ≤ 9223372036854775807) :
    Ieee.double.mul (dF m x) (dF m x) = some (qF m x) ∧ Fnt (qF m x) ∧ (vu (qF m x)).natAbs ≤ 2 ^ 154 * un ∧ qF m x / 2 ^ 63 % 2 = 0 := by
  obtain ⟨d1, d2, d3⟩ := dF_ok m hm hm2 x hx
  obtain ⟨u, k, b, e1, e2, e3⟩ := mul_val d2 d2
  have hu : u = false := by rw [e2]; simp
  have hB : k * 2 ^ b ≤ 2 ^ 154 * un := by
    have h1 : (vu (dF m x)).natAbs * (vu (dF m x)).natAbs ≤ (2 ^ 77 * un) * (2 ^ 77 * un) := Nat.mul_le_mul d3 d3
    rw [← e3] at h1
    refine Nat.le_of_mul_le_mul_right (c := un) ?_ un_pos
    have h2 : (2 ^ 77 * un) * (2 ^ 77 * un) = 2 ^ 154 * un * un := by
      rw [show (2 : Nat) ^ 154 = 2 ^ 77 * 2 ^ 77 by rw [← Nat.pow_add]]
      simp only [Nat.mul_assoc, Nat.mul_left_comm, Nat.mul_comm]
    omega
  have hn := nearest_of (u := u) (ok_pow 154 (by omega)) hB
  have hq : qF m x = Ieee.double.nearest u k ((b : Int) - 4000) := by unfold qF; rw [e1]; rfl
  rw [hq]
  exact ⟨e1, hn.1, hn.2.1, by rw [Nat.div_eq_of_lt (hn.2.2.1 hu).2]⟩
theorem ok_mul154 {k : Nat} (h : k ≤ 4096) : Ok (k * 2 ^ 154 * un) := ok_shift (by omega) (by omega)
theorem vF_ok (m : Nat) (hm : Fnt m) (hm2 : (vu m).natAbs ≤ 2 ^ 76 * un) (zs : List Int) (h : I64 zs) (k : Nat) (hk : k ≤ zs.length) (hl : zs.length ≤ 4096) : (Fnt (vF m (zs.take k)) ∧ (vu (vF m (zs.take k))).natAbs ≤ k * 2 ^ 154 * un ∧ vF m (zs.take k) / 2 ^ 63 % 2 = 0) ∧
    (∀ hk2 : k < zs.length, Ieee.double.add (vF m (zs.take k)) (qF m zs[k]) = some (vF m (zs.take (k + 1)))) := by
  have next : ∀ k, (hk2 : k < zs.length) → Fnt (vF m (zs.take k)) → (vu (vF m (zs.take k))).natAbs ≤ k * 2 ^ 154 * un → vF m (zs.take k) / 2 ^ 63 % 2 = 0 →
      Ieee.double.add (vF m (zs.take k)) (qF m zs[k]) = some (vF m (zs.take (k + 1))) ∧ Fnt (vF m (zs.take (k + 1))) ∧ (vu (vF m (zs.take (k + 1)))).natAbs ≤ (k + 1) * 2 ^ 154 * un ∧ vF m (zs.take (k + 1)) / 2 ^ 63 % 2 = 0 := by
    intro k hk2 a1 a2 a3
    obtain ⟨q1, q2, q3, q4⟩ := qF_ok m hm hm2 zs[k] (h zs[k] (List.getElem_mem hk2))
    have hB : (vu (vF m (zs.take k)) + vu (qF m zs[k])).natAbs ≤ (k + 1) * 2 ^ 154 * un := by
      have h1 := Int.natAbs_add_le (vu (vF m (zs.take k))) (vu (qF m zs[k]))
      have h2 : (k + 1) * 2 ^ 154 * un = k * 2 ^ 154 * un + 2 ^ 154 * un := by rw [Nat.add_mul, Nat.one_mul, Nat.add_mul]
      omega
    have hr := rd_le (ok_mul154 (by omega)) hB
    obtain ⟨r, r1, r2, r3, r4⟩ := add_val a1 q2 hr.2
    have e : zs.take (k + 1) = zs.take k ++ [zs[k]] := by rw [List.take_add_one, List.getElem?_eq_getElem hk2]; rfl
    have hv : vF m (zs.take (k + 1)) = r := by rw [e, vF_snoc, r1]; rfl
    rw [hv]
    exact ⟨r1, r2, by rw [r3]; exact hr.1, by rw [Nat.div_eq_of_lt (r4 a3 q4)]⟩
  have all : ∀ k, k ≤ zs.length → Fnt (vF m (zs.take k)) ∧ (vu (vF m (zs.take k))).natAbs ≤ k * 2 ^ 154 * un ∧ vF m (zs.take k) / 2 ^ 63 % 2 = 0 := by
    intro k
    induction k with
    | zero =>
      intro _
      have h0 : vF m (zs.take 0) = 0 := rfl
      have hv : vu 0 = 0 := by unfold vu; rw [if_neg (by omega), Nat.zero_mod, xr_zero]; rfl
      rw [h0, hv]
      exact ⟨by unfold Fnt inf; omega, by simp, by omega⟩
    | succ k ih =>
      intro hk
      obtain ⟨a1, a2, a3⟩ := ih (by omega)
      exact (next k (by omega) a1 a2 a3).2
  obtain ⟨a1, a2, a3⟩ := all k hk
  exact ⟨⟨a1, a2, a3⟩, fun hk2 => (next k hk2 a1 a2 a3).1⟩
theorem devF_ok (zs : List Int) (h : I64 zs) (h1 : 1 ≤ zs.length) (h2 : zs.length ≤ 4096) :
    ∃ y, Ieee.double.div (vF (mF zs) zs) (fi zs.length) = some y ∧ Ieee.double.sqrt y = some (devF zs) ∧ Ieee.double.order (devF zs) (devF zs) = some .eq := by
  obtain ⟨_, m1, m2⟩ := mF_ok zs h h1 h2
  obtain ⟨⟨v1, v2, v3⟩, _⟩ := vF_ok (mF zs) m1 m2 zs h zs.length (Nat.le_refl _) h2
  rw [List.take_length] at v1 v2 v3
  obtain ⟨f1, f2, f3⟩ := fi_ge h1 h2
  obtain ⟨u, k, b, d1, d2, d3⟩ := div_val v1 f1 f2
  have hu : u = false := by rw [d2, v3, f3]; rfl
  have hB : k * 2 ^ b ≤ 2 ^ 167 * un := by
    have e : zs.length * 2 ^ 154 * un ≤ 2 ^ 166 * un := Nat.mul_le_mul_right _ (by omega)
    have e2 : 2 ^ 167 * un = 2 * (2 ^ 166 * un) := by rw [← Nat.mul_assoc]
    omega
  have hn := nearest_of (u := u) (ok_pow 167 (by omega)) hB
  obtain ⟨r, r1, r2⟩ := sqrt_val hn.1 (by rw [Nat.div_eq_of_lt (hn.2.2.1 hu).2])
  have hd : devF zs = r := by unfold devF; rw [d1, Option.getD_some, r1]; rfl
  rw [hd]
  exact ⟨_, d1, r1, r2⟩
set_option maxHeartbeats 1000000 in
theorem of_ok (b off n c : Nat) (zs : List Int) (w : World) (hs : Sl w (some ⟨b, off, none⟩) zs) (hi : I64 zs) (hn : zs.length = n) (h1 : 1 ≤ n) (h2 : n ≤ 4096) :
    Calls Try.prog 15 #[.slice (some ⟨b, off, none⟩) n c] w fun e w' => e = .returned (.tuple #[.agg #[.int .i64 n, .int .i64 (Lib.minOf zs), .int .i64 (Lib.maxOf zs), .float .f64 (mF zs), .float .f64 (devF zs)], .int .i64 0]) ∧ Chg (fun _ => False) w w' := by
  have HI := Lib.hid hi
  clear hi
  have hcell : ∀ j (h : j < zs.length), w.cell? ⟨b, off + j, none⟩ = some (.int .i64 zs[j]) := by
    rcases hs with h | ⟨b', off', h, _, hc⟩
    · subst h; simp at hn; omega
    · obtain ⟨rfl, rfl⟩ : b = b' ∧ off = off' := by simpa using h
      exact hc
  have HN := Lib.hid hn
  have hbl : b < w.heap.size := by
    rcases hs with h | ⟨b', off', h, hb, hc⟩
    · subst h; simp at hn; omega
    · obtain ⟨rfl, rfl⟩ : b = b' ∧ off = off' := by simpa using h
      exact hb
  obtain ⟨W0, hW0⟩ : ∃ W0, w.alloc (.cells #[.int .i64 0, .int .i64 0, .int .i64 0, .float .f64 0, .float .f64 0] 27) = W0 := ⟨_, rfl⟩
  have HW0 := Lib.hid hW0
  have hc0 : Chg (fun _ => False) w W0 := by rw [← hW0]; exact (Chg.refl _ _).alloc _
  have hB0 : Blk W0 w.heap.size #[.int .i64 0, .int .i64 0, .int .i64 0, .float .f64 0, .float .f64 0] 27 := by rw [← hW0]; exact Blk.new _ _ _
  have hs0 : W0.heap.size = w.heap.size + 1 := by rw [← hW0]; simp
  have hcell0 : ∀ j (h : j < zs.length), W0.cell? ⟨b, off + j, none⟩ = some (.int .i64 zs[j]) := fun j h => (hc0.cell (p := ⟨b, off + j, none⟩) hbl (fun h => h)).trans (hcell j h)
  have HC := Lib.hid hcell0
  have hz : ∀ j, j < zs.length → W0.cell? ⟨b, off + j, none⟩ = some (.int .i64 (zs.getD j 0)) := fun j hj => by rw [hcell0 j hj]; simp [List.getD, hj]
  have HZ := Lib.hid hz
  have HB0 := Lib.hid hB0
  have HC0 := Lib.hid hc0
  have HS0 := Lib.hid hs0
  clear hs hcell hn hz hW0 hc0 hB0 hs0 hcell0
  have htk : zs.take n = zs := List.take_of_length_le (by have := HN.out; omega)
  have HTK := Lib.hid htk
  clear htk
  go_enter Try.func15, Try.ntmps15
  go_wp2_with (first
    | (go_at_call 38; refine (some_ok _ _ _ _ h1 h2).mono ?_; rintro r w1 ⟨rfl, rfl⟩)
    | (go_at_call 39; rw [HW0.out]; have hq9 := Try.slices_Min_int b off n c zs W0 (by omega) (by have := HN.out; omega) (by omega) HZ.out; (with_reducible refine hq9.mono ?_); clear hq9; rintro r w1 ⟨rfl, hw1⟩; rw [HTK.out, hw1]; clear hw1)
    | (go_at_call 40; have hq9 := Try.slices_Max_int b off n c zs W0 (by omega) (by have := HN.out; omega) (by omega) HZ.out; (with_reducible refine hq9.mono ?_); clear hq9; rintro r w2 ⟨rfl, hw1⟩; rw [HTK.out, hw1]; clear hw1))
  have hW1 : ∀ j (h : j < zs.length), (b < W0.heap.size) := fun j h => by have := HS0.out; omega
  have hbl0 : b < W0.heap.size := by have := HS0.out; omega
  clear hW1
  go_loop [7, 33] (fun x7 x33 => ∃ k : Nat, k ≤ n ∧ x33 = .int .i64 k ∧ x7 = .float .f64 (sF (zs.take k))) (fun _ x33 => n - (intOf x33).toNat)
  case atStart => exact ⟨0, Nat.zero_le _, rfl, rfl⟩
  case round =>
    obtain ⟨k, hk, rfl, rfl⟩ := hrel
    by_cases hlt : k < n
    · have hd : decide (k < n) = true := by simpa using hlt
      have hkl : k < zs.length := by rw [HN.out]; exact hlt
      have hc := HC.out k hkl
      have hadd := (sF_ok zs HI.out k (by omega) (by rw [HN.out]; exact h2)).2.2 hkl
      have hA := fun w => run_float_arith (P := Try.prog) w .add 25 .f64 (sF (zs.take k)) (floatOfInt .f64 zs[k]) (sF (zs.take (k + 1))) hadd
      clear hadd
      generalize zs[k] = x at *
      clear hkl
      go_wp2_with fail
      go_round
      case rel => exact ⟨k + 1, by omega, by simp, rfl⟩
      case measure => simp [intOf]; omega
    · have hd : decide (k < n) = false := by simpa using hlt
      obtain rfl : k = n := by omega
      rw [HTK.out]
      have hm := mF_ok zs HI.out (by rw [HN.out]; exact h1) (by rw [HN.out]; exact h2)
      rw [HN.out] at hm
      have hM := fun w => run_float_arith (P := Try.prog) w .quo 25 .f64 (sF zs) (floatOfInt .f64 k) (mF zs) hm.1
      have HM := Lib.hid hm
      clear hm
      go_wp2_with fail
      have HDV := Lib.hid (devF_ok zs HI.out (by rw [HN.out]; exact h1) (by rw [HN.out]; exact h2))
      clear hM
      go_loop [10, 48] (fun x10 x48 => ∃ i : Nat, i ≤ k ∧ x48 = .int .i64 i ∧ x10 = .float .f64 (vF (mF zs) (zs.take i))) (fun _ x48 => k - (intOf x48).toNat)
      case atStart => exact ⟨0, Nat.zero_le _, rfl, rfl⟩
      case round =>
        obtain ⟨i, hik, rfl, rfl⟩ := hrel
        by_cases hlt2 : i < k
        · have hd : decide (i < k) = true := by simpa using hlt2
          have hil : i < zs.length := by rw [HN.out]; exact hlt2
          have hc := HC.out i hil
          have hx := HI.out zs[i] (List.getElem_mem hil)
          have hadd := (vF_ok (mF zs) HM.out.2.1 HM.out.2.2 zs HI.out i (by omega) (by rw [HN.out]; exact h2)).2 hil
          have hA := fun w => run_float_arith (P := Try.prog) w .add 25 .f64 (vF (mF zs) (zs.take i)) (qF (mF zs) zs[i]) (vF (mF zs) (zs.take (i + 1))) hadd
          have hS := fun w => run_float_arith (P := Try.prog) w .sub 25 .f64 (floatOfInt .f64 zs[i]) (mF zs) (dF (mF zs) zs[i]) (dF_ok (mF zs) HM.out.2.1 HM.out.2.2 zs[i] hx).1
          have hQ := fun w => run_float_arith (P := Try.prog) w .mul 25 .f64 (dF (mF zs) zs[i]) (dF (mF zs) zs[i]) (qF (mF zs) zs[i]) (qF_ok (mF zs) HM.out.2.1 HM.out.2.2 zs[i] hx).1
          clear hadd hx
          generalize zs[i] = x at *
          clear hil
          go_wp2_with fail
          go_round
          case rel => exact ⟨i + 1, by omega, by simp, rfl⟩
          case measure => simp [intOf]; omega
        · have hd : decide (i < k) = false := by simpa using hlt2
          obtain rfl : i = k := by omega
          rw [HTK.out]
          obtain ⟨y, hy1, hy2, _⟩ := HDV.out
          rw [HN.out] at hy1
          have hD := fun w => run_float_arith (P := Try.prog) w .quo 25 .f64 (vF (mF zs) zs) (floatOfInt .f64 i) y hy1
          have HY := Lib.hid hy2
          clear hy1 hy2
          have hwl : w.heap.size < W0.heap.size := by have := HS0.out; omega
          have e0 : W0.cell? ⟨w.heap.size, 0, none⟩ = some (.int .i64 0) := HB0.out.cell 0
          have e1 : W0.cell? ⟨w.heap.size, 1, none⟩ = some (.int .i64 0) := HB0.out.cell 1
          have e2 : W0.cell? ⟨w.heap.size, 2, none⟩ = some (.int .i64 0) := HB0.out.cell 2
          have e3 : W0.cell? ⟨w.heap.size, 3, none⟩ = some (.float .f64 0) := HB0.out.cell 3
          have e4 : W0.cell? ⟨w.heap.size, 4, none⟩ = some (.float .f64 0) := HB0.out.cell 4
          have f0 : W0.frozen? ⟨w.heap.size, 0, none⟩ = false := HB0.out.frozen 0
          have f1 : W0.frozen? ⟨w.heap.size, 1, none⟩ = false := HB0.out.frozen 1
          have f2 : W0.frozen? ⟨w.heap.size, 2, none⟩ = false := HB0.out.frozen 2
          have f3 : W0.frozen? ⟨w.heap.size, 3, none⟩ = false := HB0.out.frozen 3
          have f4 : W0.frozen? ⟨w.heap.size, 4, none⟩ = false := HB0.out.frozen 4
          go_wp2_with (go_at_call 41; refine (sqrt_any y (devF zs) _ HY.out).mono ?_; rintro r w5 ⟨rfl, rfl⟩)
          refine bodyPost_ret (v := .tuple #[.agg #[.int .i64 i, .int .i64 (Lib.minOf zs), .int .i64 (Lib.maxOf zs), .float .f64 (mF zs), .float .f64 (devF zs)], .int .i64 0]) (by simp [results, Try.results15, go_sem, *]) rfl ⟨rfl, ?_⟩
          repeat (first | (with_reducible exact HC0.out) | (with_reducible refine Chg.set ?_ (Or.inl (by simp)) _) | (with_reducible refine Chg.alloc ?_ _) | (with_reducible refine Chg.drew ?_))
theorem of_many (A : Option Addr) (n c : Nat) (w : World) (h : 4096 < n) :
    Calls Try.prog 15 #[.slice A n c] w fun e w' => e = .returned (.tuple #[.agg #[.int .i64 0, .int .i64 0, .int .i64 0, .float .f64 0, .float .f64 0], .int .i64 220]) ∧ Chg (fun _ => False) w w' := by
  go_enter Try.func15, Try.ntmps15
  go_wp2_with (go_at_call 38; refine (some_many _ _ _ _ h).mono ?_; rintro r w1 ⟨rfl, rfl⟩)
  refine bodyPost_ret (v := .tuple #[.agg #[.int .i64 0, .int .i64 0, .int .i64 0, .float .f64 0, .float .f64 0], .int .i64 220]) (by simp [results, Try.results15, go_sem, *]) rfl ⟨rfl, ?_⟩
  (repeat (first | (with_reducible exact Chg.refl _ _) | (with_reducible refine Chg.set ?_ (Or.inl (by simp)) _) | (with_reducible refine Chg.alloc ?_ _) | (with_reducible refine Chg.drew ?_) | (with_reducible refine Chg.drewN ?_ _)))
theorem of_none (A : Option Addr) (c : Nat) (w : World) :
    Calls Try.prog 15 #[.slice A 0 c] w fun e w' => e = .returned (.tuple #[.agg #[.int .i64 0, .int .i64 0, .int .i64 0, .float .f64 0, .float .f64 0], .int .i64 222]) ∧ Chg (fun _ => False) w w' := by
  go_enter Try.func15, Try.ntmps15
  go_wp2_with (go_at_call 38; refine (some_none _ _ _).mono ?_; rintro r w1 ⟨rfl, rfl⟩)
  refine bodyPost_ret (v := .tuple #[.agg #[.int .i64 0, .int .i64 0, .int .i64 0, .float .f64 0, .float .f64 0], .int .i64 222]) (by simp [results, Try.results15, go_sem, *]) rfl ⟨rfl, ?_⟩
  (repeat (first | (with_reducible exact Chg.refl _ _) | (with_reducible refine Chg.set ?_ (Or.inl (by simp)) _) | (with_reducible refine Chg.alloc ?_ _) | (with_reducible refine Chg.drew ?_) | (with_reducible refine Chg.drewN ?_ _)))
end Go.Proofs.Ytgoimoaeeiobnaa.Ga
