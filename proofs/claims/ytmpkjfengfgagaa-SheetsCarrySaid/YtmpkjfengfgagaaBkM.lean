/- Package sheets: Apply. -/
import Derived.Test.YtmpkjfengfgagaaBkL
namespace Go.Proofs.Ytmpkjfengfgagaa.Bk
open Go.RowKit Go.Hp
attribute [local go_sem] min2_lean min_two max2_lean max_two
set_option linter.unusedSimpArgs false
set_option linter.unusedVariables false
set_option maxRecDepth 100000
/-- A list of sheets that can be read. -/
def ShL (w : World) (A : Option Addr) (vs : Nat → Value) (l : List ShA) : Prop := ∀ i (h : i < l.length), ∃ b off, A = some ⟨b, off, none⟩ ∧
  w.cell? ⟨b, off + i * 3, none⟩ = some (.int .i64 l[i].num) ∧ w.cell? ⟨b, off + i * 3 + 1, none⟩ = some (.int .i64 l[i].at_) ∧ w.cell? ⟨b, off + i * 3 + 2, none⟩ = some (vs i) ∧ Byt w (vs i) l[i].d
theorem ShL.of_sl {w : World} {A : Option Addr} {n c : Nat} {l : List ShA} (h : SlR 3 40 ShR w [.slice A n c] l) : ∃ vs, ∀ w', Chg (fun _ => False) w w' → ShL w' A vs l := by
  have h1 : ∀ i : Nat, ∃ v : Value, ∀ hi : i < l.length, ∃ b off, A = some ⟨b, off, none⟩ ∧ ∀ w', Chg (fun _ => False) w w' →
      w'.cell? ⟨b, off + i * 3, none⟩ = some (.int .i64 l[i].num) ∧ w'.cell? ⟨b, off + i * 3 + 1, none⟩ = some (.int .i64 l[i].at_) ∧ w'.cell? ⟨b, off + i * 3 + 2, none⟩ = some v ∧ Byt w' v l[i].d := fun i => by
    by_cases hi : i < l.length
    · obtain ⟨b, off, hA, hb, ds, -, ⟨v, hds, hv⟩, hc⟩ := SlR.at_ h hi
      obtain ⟨Ad, cd, rfl, hby, -⟩ := SlR.byt hv
      rw [hds] at hc
      exact ⟨_, fun _ => ⟨b, off, hA, fun w' hch => ⟨(hch.cell (p := ⟨b, off + i * 3, none⟩) hb (fun h => h)).trans (hc 0 _ rfl), (hch.cell (p := ⟨b, off + i * 3 + 1, none⟩) hb (fun h => h)).trans (hc 1 _ rfl), (hch.cell (p := ⟨b, off + i * 3 + 2, none⟩) hb (fun h => h)).trans (hc 2 _ rfl), byt_keep hby hch⟩⟩⟩
    · exact ⟨undef, fun h => absurd h hi⟩
  obtain ⟨vs, hvs⟩ := Classical.axiomOfChoice h1
  exact ⟨vs, fun w' hch i hi => by
    obtain ⟨b, off, hA, hc⟩ := hvs i hi
    exact ⟨b, off, hA, hc w' hch⟩⟩
theorem Chg.far {w W W' : World} {O X : Hp.Own} (t : Turns w W O X) (h : Chg X.foot W W') : Chg O.foot w W' :=
  ⟨h.os.trans t.chg.os, h.tape.trans t.chg.tape, h.output.trans t.chg.output, Nat.le_trans t.chg.size h.size, fun k hk hn =>
    (h.block k (Nat.lt_of_lt_of_le hk t.chg.size) (fun hf => (t.near k hf).elim hn (fun hge => by omega))).trans (t.chg.block k hk hn)⟩
/-- What Apply says. -/
def Ab.appE (A : Ab) : Int → List ShA → Int
  | _, [] => 0
  | last, s :: r => if ¬ (0 ≤ s.num ∧ s.num < A.n) then 61 else if s.num ≤ last then 64 else if ¬ (1 ≤ s.at_ ∧ s.at_ ≤ 1099511627776) then 62 else if 2304 < s.d.length then 63 else A.appE s.num r
def Ab.appL (A : Ab) (l : List ShA) : Ab := l.foldl (fun A s => A.set s.num.toNat s.at_ s.d) A
def Ab.apply (A : Ab) (l : List ShA) : Ab := if A.appE (-1) l = 0 then A.appL l else A
theorem Ab.appL_n (l : List ShA) : ∀ A : Ab, (A.appL l).n = A.n := by
  induction l with
  | nil => intro A; rfl
  | cons s r ih => intro A; exact ih _
theorem Ab.appL_next (A : Ab) (l : List ShA) (s : ShA) : A.appL (l ++ [s]) = (A.appL l).set s.num.toNat s.at_ s.d := by simp [Ab.appL]
theorem Ab.apply_n (A : Ab) (l : List ShA) : (A.apply l).n = A.n := by unfold Ab.apply; split; exact Ab.appL_n l A; rfl
theorem appE_all {A : Ab} : ∀ {l : List ShA} {last : Int}, A.appE last l = 0 → ∀ s ∈ l, (0 ≤ s.num ∧ s.num < A.n) ∧ (1 ≤ s.at_ ∧ s.at_ ≤ 1099511627776) ∧ s.d.length ≤ 2304
  | [], _, _, s, hs => by cases hs
  | x :: r, last, h, s, hs => by
    unfold Ab.appE at h
    split at h
    · cases h
    · rename_i h1
      split at h
      · cases h
      · split at h
        · cases h
        · rename_i h3
          split at h
          · cases h
          · rename_i h4
            rcases List.mem_cons.1 hs with rfl | hs
            · exact ⟨Decidable.not_not.1 h1, Decidable.not_not.1 h3, by omega⟩
            · exact appE_all h s hs
theorem src_keep {S : Nat → Prop} {w w1 : World} {v : Value} {d : List UInt8} (h : ∀ w', Chg S w w' → Byt w' v d) (hc : Chg S w w1) : Byt w1 v d := h w1 hc
set_option maxHeartbeats 4000000 in
theorem apply_any {P : Pool} {b : Bk} {A : Ab} {w : World} (h : Bk.Is P b A) (hh : (Hp.Own.both P.own b.own).holds w) (Al : Option Addr) (n c : Nat) (l : List ShA) (vs : Nat → Value) (hn : l.length = n) (hn9 : n ≤ 4611686018427387904)
    (hl : ∀ w', Chg (Hp.Own.both P.own b.own).foot w w' → ShL w' Al vs l) :
    Calls Try.prog 28 #[.pointer (some ⟨b.g, 0, none⟩), .slice Al n c] w fun e w' => e = .returned (.int .i64 (A.appE (-1) l)) ∧ ∃ (P' : Pool) (b' : Bk), b'.g = b.g ∧ P.le P' ∧ Bk.Is P' b' (A.apply l) ∧ Turns w w' (Hp.Own.both P.own b.own) (Hp.Own.both P'.own b'.own) := by
  have HH := Lib.hid h
  have HR := Lib.hid (Turns.refl hh)
  have HL := Lib.hid hl
  have HN := Lib.hid hn
  obtain ⟨E, hE⟩ : ∃ E, E = A.appE (-1) l := ⟨_, rfl⟩
  have HE := Lib.hid hE
  rw [← hE]
  have hsame : Hid (E ≠ 0 → A.apply l = A) := Lib.hid (fun h9 => by unfold Ab.apply; rw [if_neg (by rw [← HE.out]; exact h9)])
  clear h hh hl hn hE
  go_enter Try.func28, Try.ntmps28
  go_wp2_with fail
  go_loopw [5, 12] (fun x5 x12 wr => ∃ (i : Nat) (lst : Int), x5 = .int .i64 lst ∧ x12 = .int .i64 i ∧ i ≤ n ∧ E = A.appE lst (l.drop i) ∧ Turns w wr (Hp.Own.both P.own b.own) (Hp.Own.both P.own b.own)) (fun _ x12 _ => n - (intOf x12).toNat)
  case atStart => exact ⟨0, -1, rfl, rfl, Nat.zero_le _, HE.out, HR.out⟩
  case round =>
    obtain ⟨i, lst, rfl, rfl, hi, he, ht⟩ := hrel
    have HT := Lib.hid ht
    have HEE := Lib.hid he
    clear ht he
    by_cases hlt : i < n
    · have hd : decide ((i : Int) < (n : Int)) = true := by simp; omega
      have hd' : decide (i < n) = true := by simpa using hlt
      have hi0 : (0 : Int) ≤ (i : Int) := Int.natCast_nonneg _
      have hi1 : (i : Int) < (n : Int) := by omega
      have hil : i < l.length := by rw [HN.out]; exact hlt
      have hwi : IntKind.i64.wrap ((i : Int) + 1) = (i : Int) + 1 := IntWalk.i64_in _ (by omega)
      obtain ⟨ab, aoff, hA, z0, z1, z2, hby⟩ := HL.out wr HT.out.chg i hil
      obtain ⟨Ad, cd, hv⟩ := Src.len hby
      rw [hv] at z2
      clear hv hby
      subst hA
      have hdrop : l.drop i = l[i] :: l.drop (i + 1) := by rw [List.drop_eq_getElem_cons hil]
      obtain ⟨x, hx⟩ : ∃ x, x = l[i] := ⟨_, rfl⟩
      rw [← hx] at z0 z1 z2 hdrop
      obtain ⟨xn, xa, xd⟩ := x
      have HDR : Hid (E = A.appE lst (⟨xn, xa, xd⟩ :: l.drop (i + 1))) := Lib.hid (by rw [← hdrop]; exact HEE.out)
      obtain ⟨dn, hdn⟩ : ∃ n, n = xd.length := ⟨_, rfl⟩
      simp only [← hdn] at z2
      have HDN := Lib.hid hdn
      have HTH := Lib.hid (fun o => there_any b.g A.n xn (wr.alloc o) (by rw [← HH.out.n]; exact bk_n (HT.out.alloc o).now.2.1.1))
      clear hdrop hx hdn HEE
      by_cases q1 : 0 ≤ xn ∧ xn < A.n
      · have d1 : decide (0 ≤ xn ∧ xn < A.n) = true := by simpa using q1
        rw [d1] at HTH
        by_cases q2 : xn ≤ lst
        · have d2 : decide (xn ≤ lst) = true := by simpa using q2
          have e9 : E = 64 := by rw [HDR.out, Ab.appE, if_neg (by simpa using q1), if_pos q2]
          subst e9
          clear q1 d1
          go_wp2_with (first
            | (go_at_call 71; refine (HTH.out _).mono ?_; rintro r1 w1' ⟨rfl, hq⟩; have hq := hq.symm; subst hq))
          go_ret
          exact ⟨rfl, P, b, rfl, Pool.le.rfl' P, by rw [hsame.out (by omega)]; exact HH.out, HT.out.alloc _⟩
        · have d2 : decide (xn ≤ lst) = false := by simpa using q2
          by_cases q3 : 1 ≤ xa ∧ xa ≤ 1099511627776
          · have d3 : decide (xa < 1) = false := by simp; omega
            have d4 : decide (1099511627776 < xa) = false := by simp; omega
            by_cases q4 : 2304 < dn
            · have d5 : decide ((2304 : Int) < (dn : Int)) = true := by simp; omega
              have d5' : decide (2304 < dn) = true := by simp; omega
              have e9 : E = 63 := by rw [HDR.out, Ab.appE, if_neg (by simpa using q1), if_neg q2, if_neg (by simpa using q3), if_pos (by rw [← HDN.out]; exact q4)]
              subst e9
              clear q1 q2 q3 d1
              go_wp2_with (first
                | (go_at_call 71; refine (HTH.out _).mono ?_; rintro r1 w1' ⟨rfl, hq⟩; have hq := hq.symm; subst hq))
              go_ret
              exact ⟨rfl, P, b, rfl, Pool.le.rfl' P, by rw [hsame.out (by omega)]; exact HH.out, HT.out.alloc _⟩
            · have d5 : decide ((2304 : Int) < (dn : Int)) = false := by simp; omega
              have d5' : decide (2304 < dn) = false := by simp; omega
              have e9 : E = A.appE xn (l.drop (i + 1)) := by rw [HDR.out, Ab.appE, if_neg (by simpa using q1), if_neg q2, if_neg (by simpa using q3), if_neg (by rw [← HDN.out]; exact q4)]
              have HE9 := Lib.hid e9
              clear q1 q2 q3 d1 e9
              go_wp2_with (first
                | (go_at_call 71; refine (HTH.out _).mono ?_; rintro r1 w1' ⟨rfl, hq⟩; have hq := hq.symm; subst hq))
              go_roundw
              case rel => exact ⟨i + 1, xn, rfl, by simp, hlt, HE9.out, HT.out.alloc _⟩
              case measure => simp [intOf]; omega
          · have e9 : E = 62 := by rw [HDR.out, Ab.appE, if_neg (by simpa using q1), if_neg q2, if_pos q3]
            subst e9
            clear q1 d1 q2
            by_cases q5 : xa < 1
            · have d3 : decide (xa < 1) = true := by simpa using q5
              clear q3
              go_wp2_with (first
                | (go_at_call 71; refine (HTH.out _).mono ?_; rintro r1 w1' ⟨rfl, hq⟩; have hq := hq.symm; subst hq))
              go_ret
              exact ⟨rfl, P, b, rfl, Pool.le.rfl' P, by rw [hsame.out (by omega)]; exact HH.out, HT.out.alloc _⟩
            · have d3 : decide (xa < 1) = false := by simpa using q5
              have d4 : decide (1099511627776 < xa) = true := by simp; omega
              clear q3
              go_wp2_with (first
                | (go_at_call 71; refine (HTH.out _).mono ?_; rintro r1 w1' ⟨rfl, hq⟩; have hq := hq.symm; subst hq))
              go_ret
              exact ⟨rfl, P, b, rfl, Pool.le.rfl' P, by rw [hsame.out (by omega)]; exact HH.out, HT.out.alloc _⟩
      · have d1 : decide (0 ≤ xn ∧ xn < A.n) = false := by simpa using q1
        rw [d1] at HTH
        have e9 : E = 61 := by rw [HDR.out, Ab.appE, if_pos q1]
        subst e9
        clear q1 d1
        go_wp2_with (first
          | (go_at_call 71; refine (HTH.out _).mono ?_; rintro r1 w1' ⟨rfl, hq⟩; have hq := hq.symm; subst hq))
        go_ret
        exact ⟨rfl, P, b, rfl, Pool.le.rfl' P, by rw [hsame.out (by omega)]; exact HH.out, HT.out.alloc _⟩
    · have hd : decide ((i : Int) < (n : Int)) = false := by simp; omega
      have hd' : decide (i < n) = false := by simp; omega
      have e9 : E = 0 := by rw [HEE.out, List.drop_eq_nil_of_le (by rw [HN.out]; omega)]; rfl
      have HAL := Lib.hid (appE_all (A := A) (l := l) (last := -1) (by rw [← HE.out, e9]))
      have HAP : Hid (A.apply l = A.appL l) := Lib.hid (by unfold Ab.apply; rw [if_pos (by rw [← HE.out, e9])])
      subst e9
      clear HEE hsame HR
      go_wp2_with fail
      go_loopw [46] (fun x46 wr' => ∃ (i : Nat) (P' : Pool) (b' : Bk), x46 = .int .i64 i ∧ i ≤ n ∧ b'.g = b.g ∧ P.le P' ∧ Bk.Is P' b' (A.appL (l.take i)) ∧ Turns w wr' (Hp.Own.both P.own b.own) (Hp.Own.both P'.own b'.own)) (fun x46 _ => n - (intOf x46).toNat)
      case atStart => exact ⟨0, P, b, rfl, Nat.zero_le _, rfl, Pool.le.rfl' P, HH.out, HT.out⟩
      case round =>
        clear HT hlt hd hd'
        obtain ⟨i, P', b', rfl, hi, hg, hle, his, ht⟩ := hrel
        have HT := Lib.hid ht
        have HI := Lib.hid his
        have HG := Lib.hid hg
        have HLE := Lib.hid hle
        clear ht his hg hle
        by_cases hlt : i < n
        · have hd : decide ((i : Int) < (n : Int)) = true := by simp; omega
          have hd' : decide (i < n) = true := by simpa using hlt
          have hi0 : (0 : Int) ≤ (i : Int) := Int.natCast_nonneg _
          have hi1 : (i : Int) < (n : Int) := by omega
          have hil : i < l.length := by rw [HN.out]; exact hlt
          have hwi : IntKind.i64.wrap ((i : Int) + 1) = (i : Int) + 1 := IntWalk.i64_in _ (by omega)
          obtain ⟨ab, aoff, hA, z0, z1, z2, hby⟩ := HL.out wr HT.out.chg i hil
          have hfar : ∀ w', Chg (Hp.Own.both P'.own b'.own).foot wr w' → Byt w' (vs i) (l[i]).d := fun w' hc => by
            obtain ⟨ab2, aoff2, hA2, -, -, y2, hby⟩ := HL.out w' (Chg.far HT.out hc) i hil
            exact hby
          obtain ⟨Ad, cd, hv⟩ := Src.len hby
          rw [hv] at z2 hfar hby
          clear hv
          subst hA
          have hall := HAL.out l[i] (List.getElem_mem hil)
          have htk : l.take (i + 1) = l.take i ++ [l[i]] := by rw [List.take_succ_eq_append_getElem hil]
          obtain ⟨x, hx⟩ : ∃ x, x = l[i] := ⟨_, rfl⟩
          rw [← hx] at z0 z1 z2 htk hall hfar hby
          obtain ⟨xn, xa, xd⟩ := x
          obtain ⟨⟨a1, a2⟩, a3, a4⟩ := hall
          obtain ⟨u, hu⟩ : ∃ u : Nat, xn = (u : Int) := ⟨xn.toNat, by simp only at a1; omega⟩
          subst hu
          have HTK := Lib.hid htk
          have hAn : (A.appL (l.take i)).n = A.n := Ab.appL_n _ _
          have HW := Lib.hid (fun o => write_is HI.out (HT.out.alloc o).now u xa Ad xd.length cd xd (by rw [hAn]; simp only at a2; omega) a3 (src_keep hfar ((Chg.refl _ wr).alloc o)) (fun w' hc => hfar w' (((Chg.refl _ wr).alloc o).trans hc)) a4 rfl)
          clear htk hfar hx a1 a2 a3 a4 hAn hby
          rw [HG.out] at HW
          go_wp2_with (first
            | (go_at_call 73; refine (HW.out _).mono ?_; rintro r1 w6 ⟨rfl, P6, b6, hg6, hle6, hi6, ht6⟩; have HI6 := Lib.hid hi6; have HG6 := Lib.hid hg6; have HLE6 := Lib.hid (HLE.out.trans hle6); have HT6 := Lib.hid ((HT.out.alloc _).trans ht6); clear hi6 hg6 ht6 hle6))
          go_roundw
          case rel =>
            refine ⟨i + 1, P6, b6, by simp, hlt, HG6.out, HLE6.out, ?_, HT6.out⟩
            rw [HTK.out, Ab.appL_next]
            exact HI6.out
          case measure => simp [intOf]; omega
        · have hd : decide ((i : Int) < (n : Int)) = false := by simp; omega
          have hd' : decide (i < n) = false := by simp; omega
          go_wp2_with fail
          go_ret
          refine ⟨rfl, P', b', HG.out, HLE.out, ?_, HT.out⟩
          rw [HAP.out]
          have := HI.out
          rwa [List.take_of_length_le (by rw [HN.out]; omega)] at this
end Go.Proofs.Ytmpkjfengfgagaa.Bk
