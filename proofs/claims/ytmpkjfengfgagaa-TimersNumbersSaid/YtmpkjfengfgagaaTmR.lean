/- A timer is told by just its tick: TimersRuns. -/
import Derived.Test.YtmpkjfengfgagaaTmCS
import Derived.Test.YtmpkjfengfgagaaOpn
import Derived.Deep.DeepCutAuto
namespace Go.Proofs.Ytmpkjfengfgagaa.Ts
open Go.RowKit Go.Hp
attribute [local go_sem] min2_lean min_two max2_lean max_two
set_option linter.unusedSimpArgs false
set_option linter.unusedVariables false
set_option maxRecDepth 100000
theorem Try.cells_act3 : Try.prog.cellsOf 75 = 5 := by kernel_rfl
theorem Try.bytes_act3 : Try.prog.bytesOf 75 = 48 := by kernel_rfl
theorem Try.cells_int3 : Try.prog.cellsOf 3 = 1 := by kernel_rfl
theorem Try.cells_str3 : Try.prog.cellsOf 9 = 1 := by kernel_rfl
structure AcA where
  kind : Int
  at_ : Int
  name : List UInt8
  num : Int
  ticks : Int
deriving Inhabited
def AcA.cells (x : AcA) : List Value := [.int .i64 x.kind, .int .i64 x.at_, encStr x.name, .int .i64 x.num, .int .i64 x.ticks]
def AcR : Rd AcA := fun _ cs x => cs = x.cells ∧ (Lit.int .i64 x.kind).wf = true ∧ (Lit.int .i64 x.at_).wf = true ∧ (Lit.int .i64 x.num).wf = true ∧ (Lit.int .i64 x.ticks).wf = true ∧ x.name.length ≤ 140737488351232
theorem str_list (s : ByteArray) : Value.string s = encStr s.data.toList := by cases s; simp
theorem act_open {w : World} {cs : List Value} (h : Rdg Try.prog w 75 cs) : ∃ x, AcR w cs x := by
  obtain ⟨hl, hf⟩ := h.struct Try.underlying75
  rw [Try.cells_act3] at hl
  match cs, hl with
  | [c0, c1, c2, c3, c4], _ =>
    obtain ⟨a, ha, wa⟩ := (hf 0 _ rfl).int Try.underlying3
    obtain ⟨b, hb, wb⟩ := (hf 1 _ rfl).int Try.underlying3
    obtain ⟨s, hs, ws⟩ := (hf 2 _ rfl).string Try.underlying9
    obtain ⟨c, hc, wc⟩ := (hf 3 _ rfl).int Try.underlying3
    obtain ⟨d, hd, wd⟩ := (hf 4 _ rfl).int Try.underlying3
    simp [Try.cells_int3, Try.cells_str3] at ha hb hs hc hd
    refine ⟨⟨a, b, s.data.toList, c, d⟩, ?_, wa, wb, wc, wd, by
      have h1 : s.data.toList.length = s.size := by rw [Array.length_toList]; rfl
      show s.data.toList.length ≤ _
      omega⟩
    rw [ha, hb, hs, hc, hd, str_list]
    rfl
theorem AcR.keeps : AcR.Keeps := fun h _ => h
theorem row_cellT {w : World} {A : Option Addr} {n c : Nat} {E : TypeId} {xs : List Value} (h : (Hp.Own.row E 1 (.slice A n c) n xs).holds w) (j : Nat) (u : Value) (hu : xs[j]? = some u) : ∃ g, A = some ⟨g, 0, none⟩ ∧ w.cell? ⟨g, j, none⟩ = some u := by
  have h : w.ownsRow 0 E 1 (.slice A n c) n xs := h
  have hj : j < xs.length := (List.getElem?_eq_some_iff.1 hu).1
  rcases h.2 with ⟨hv, h0⟩ | ⟨g, cap, cur, hv, _, hg, hn, hm, hcs, htk⟩
  · have := h.1
    omega
  · simp only [Value.slice.injEq, true_and] at hv
    obtain ⟨rfl, rfl⟩ := hv
    refine ⟨g, rfl, ?_⟩
    have := World.ownsRow.cells (g := g) h rfl j u hu
    have ha : (⟨g, 0, none⟩ : Addr).add j = ⟨g, j, none⟩ := by unfold Addr.add; split <;> simp_all
    rwa [ha] at this
/-- What the timer must have ahead of a tick. -/
def runsV (ok : Bool) (ticks i : Int) : Option Int := if ok = true ∧ i ≤ ticks then some (ticks - i + 1) else none
set_option maxHeartbeats 4000000 in
theorem runs_any (name : List UInt8) (ticks : Int) (A : Option Addr) (n c : Nat) (acts : List AcA) (w : World) (ht : (Lit.int .i64 ticks).wf = true) (ha : SlR 5 48 AcR w [.slice A n c] acts) (hn : acts.length = n) (hb : n ≤ 140737488351232) :
    Calls Try.prog 7 #[encStr name, .int .i64 ticks, .slice A n c] w fun e w' => e = .returned (.bool true) ∧ Below w.heap.size w w' := by
  simp [Lit.wf, IntKind.min, IntKind.max, IntKind.signed, IntKind.bits] at ht
  obtain ⟨ht1, ht2⟩ := ht
  have HA := Lib.hid ha
  have HNL := Lib.hid hn
  have HNW := Lib.hid (fun W => new_any W)
  clear ha hn
  obtain ⟨ok, E, hok⟩ : ∃ (ok : Bool) (E : Int), (ok = true ∧ E = 0 ∧ 1 ≤ ticks ∧ ticks ≤ 1024 ∧ decide (ticks < 1) = false ∧ decide (1024 < ticks) = false) ∨ (ok = false ∧ E = 30 ∧ ((decide (ticks < 1) = true ∧ True) ∨ (decide (ticks < 1) = false ∧ decide (1024 < ticks) = true))) := by
    by_cases h1 : ticks < 1
    · exact ⟨false, 30, Or.inr ⟨rfl, rfl, Or.inl ⟨by simpa using h1, trivial⟩⟩⟩
    · by_cases h2 : 1024 < ticks
      · exact ⟨false, 30, Or.inr ⟨rfl, rfl, Or.inr ⟨by simpa using h1, by simpa using h2⟩⟩⟩
      · exact ⟨true, 0, Or.inl ⟨rfl, rfl, by omega, by omega, by simpa using h1, by simpa using h2⟩⟩
  have hE : armE [] name ticks = E := by
    unfold armE
    rcases hok with ⟨_, rfl, h1, h2, _, _⟩ | ⟨_, rfl, ⟨h1, _⟩ | ⟨_, h1⟩⟩
    · rw [if_neg (by omega), if_neg (by simp)]
    · rw [if_pos (Or.inl (by simpa using h1))]
    · rw [if_pos (Or.inr (by simpa using h1))]
  have hL : armL [] name ticks = if ok = true then [(name, ticks)] else [] := by
    unfold armL
    rw [hE]
    rcases hok with ⟨rfl, rfl, _⟩ | ⟨rfl, rfl, _⟩
    · rfl
    · rfl
  have HAR := Lib.hid (fun g b W h => arm_any g b [] name ticks W h (by simp))
  rw [hE, hL] at HAR
  have HOT := Lib.hid (show okT (if ok = true then [(name, ticks)] else []) from by rw [← hL]; exact ok_arm ok_nil _ _)
  have HG0 := Lib.hid (show mget (if ok = true then [(name, ticks)] else []) name = runsV ok ticks 1 from by
    unfold runsV
    rcases hok with ⟨rfl, rfl, h1, h2, _⟩ | ⟨rfl, rfl, _⟩
    · rw [if_pos rfl, if_pos ⟨rfl, h1⟩]
      simp [mget]
    · simp [mget])
  obtain ⟨L0, hL0⟩ : ∃ L, (if ok = true then [(name, ticks)] else ([] : Tb)) = L := ⟨_, rfl⟩
  rw [hL0] at HAR HOT HG0
  clear hE hL hL0
  go_enter Try.func7, Try.ntmps7
  go_upto_region 5 with (go_at_call 35; (with_reducible refine (HNW.out _).mono ?_); rintro e w1 ⟨g, b, rfl, ht1⟩; have HT1 := Lib.hid ht1; clear ht1)
  go_cut [26] (fun s26 wx => s26 = .bool (!ok) ∧ w1 = wx)
  case first =>
    rcases hok with ⟨rfl, _, h1, h2, h3, h4⟩ | ⟨rfl, _, ⟨h1, _⟩ | ⟨h1, h2⟩⟩
    all_goals
      go_wp2_with fail
      go_meet
      exact ⟨rfl, rfl⟩
  case rest =>
    obtain ⟨rfl, rfl⟩ := hcut
    go_upto_if 26 with fail
    go_cut [8] (fun s8 wx => s8 = .int .i64 E ∧ w1 = wx)
    case first =>
      rcases hok with ⟨rfl, rfl, _⟩ | ⟨rfl, rfl, _⟩
      all_goals
        go_wp2_with fail
        go_meet
        exact ⟨rfl, rfl⟩
    case rest =>
      obtain ⟨rfl, rfl⟩ := hcut
      have HEO := Lib.hid (show (ok = true → 1 ≤ ticks ∧ ticks ≤ 1024) ∧ ((E == 0) = ok) from by
        rcases hok with ⟨rfl, rfl, h1, h2, _⟩ | ⟨rfl, rfl, _⟩
        · exact ⟨fun _ => ⟨h1, h2⟩, by decide⟩
        · exact ⟨(fun h => by cases h), by decide⟩)
      clear hok
      have hEE : (E != E) = false := by simp
      go_wp2_with (go_at_call 36; (with_reducible refine (HAR.out _ _ _ HT1.out.now).mono ?_); rintro e w2 ⟨rfl, ht2⟩; have HT2 := Lib.hid (HT1.out.trans ht2); clear ht2)
      go_loopw [9] (fun x9 wr => ∃ (m : Nat) (l : Tb), x9 = .int .i64 ((m : Int) + 1) ∧ m ≤ 1025 ∧ okT l ∧ mget l name = runsV ok ticks ((m : Int) + 1) ∧ Turns w wr Hp.Own.emp (tbO g b l)) (fun x9 _ => 1026 - (intOf x9).toNat)
      case atStart => exact ⟨0, L0, rfl, by omega, HOT.out, HG0.out, HT2.out⟩
      case round =>
        clear HT2 HT1 HAR HNW HG0 HOT
        obtain ⟨m, l, rfl, hm, hol, hgl, ht⟩ := hrel
        have HT := Lib.hid ht
        have HOL := Lib.hid hol
        have HGL := Lib.hid hgl
        clear ht hol hgl
        by_cases hlt : m ≤ 1024
        · have hd : decide ((m : Int) + 1 ≤ 1025) = true := by simp; omega
          have hd' : decide (m ≤ 1024) = true := by simpa using hlt
          have hd2 : decide ((m : Int) ≤ 1024) = true := by simp; omega
          have hd3 : (m : Int) + 1 ≤ 1025 := by omega
          have hd4 : (m : Int) < 1025 := by omega
          go_upto_region 12 with fail
          go_cut [50] (fun s50 wx => ∃ q : Bool, s50 = .bool q ∧ (q = true → m < n ∧ ∀ h : m < acts.length, acts[m].name ≠ name) ∧ wr = wx)
          case first =>
            by_cases hmn : m < n
            · have e1 : decide ((m : Int) + 1 ≤ (n : Int)) = true := by simp; omega
              have e2 : decide ((m : Int) < (n : Int)) = true := by simp; omega
              have e3 : decide (m < n) = true := by simpa using hmn
              have hml : m < acts.length := by rw [HNL.out]; exact hmn
              obtain ⟨ba, off, rfl, hbl, ds, dl, dr, dc⟩ := HA.out.at_ hml
              obtain ⟨rfl, _⟩ := dr
              have c2 := (show wr.cell? ⟨ba, off + m * 5 + 2, none⟩ = w.cell? ⟨ba, off + m * 5 + 2, none⟩ from HT.out.chg.cell (p := ⟨ba, off + m * 5 + 2, none⟩) hbl (fun h => h)).trans (dc 2 _ rfl)
              have HQ := Lib.hid (show ∀ x, acts[m].name = x → x ≠ name → (m < n ∧ ∀ h : m < acts.length, acts[m].name ≠ name) from fun x hx hne => ⟨hmn, fun _ => by rw [hx]; exact hne⟩)
              obtain ⟨x, hx⟩ : ∃ x, acts[m].name = x := ⟨_, rfl⟩
              have HQ2 := Lib.hid (HQ.out x hx)
              rw [hx] at c2
              clear hx dc dl HQ
              by_cases hxe : x = name
              · subst hxe
                go_wp2_with fail
                go_meet
                exact ⟨false, rfl, (fun h => by cases h), rfl⟩
              · have e4 : (x == name) = false := by simpa using hxe
                go_wp2_with fail
                go_meet
                exact ⟨true, rfl, (fun _ => HQ2.out hxe), rfl⟩
            · have e1 : decide ((m : Int) + 1 ≤ (n : Int)) = false := by simp; omega
              have e2 : decide ((m : Int) < (n : Int)) = false := by simp; omega
              have e3 : decide (m < n) = false := by simpa using hmn
              go_wp2_with fail
              go_meet
              exact ⟨false, rfl, (fun h => by cases h), rfl⟩
          case rest =>
            obtain ⟨q, rfl, hq, rfl⟩ := hcut
            have HQ := Lib.hid hq
            clear hq
            go_upto_if 50 with fail
            go_cut [9] (fun s9 wx => s9 = .int .i64 ((m : Int) + 1) ∧ ∃ l', okT l' ∧ mget l' name = runsV ok ticks ((m : Int) + 1) ∧ Turns w wx Hp.Own.emp (tbO g b l'))
            case first =>
              cases q
              · go_wp2_with fail
                go_meet
                exact ⟨rfl, l, HOL.out, HGL.out, HT.out⟩
              · obtain ⟨hmn, hne⟩ := HQ.out rfl
                have hml : m < acts.length := by rw [HNL.out]; exact hmn
                have HNE := Lib.hid (hne hml)
                obtain ⟨ba, off, rfl, hbl, ds, dl, dr, dc⟩ := HA.out.at_ hml
                obtain ⟨rfl, _⟩ := dr
                have hcc : ∀ j u, acts[m].cells[j]? = some u → wr.cell? ⟨ba, off + m * 5 + j, none⟩ = some u := fun j u hu => (HT.out.chg.cell (p := ⟨ba, off + m * 5 + j, none⟩) hbl (fun h => h)).trans (dc j u hu)
                have c0 := hcc 0 _ rfl
                have c1 := hcc 1 _ rfl
                have c2 := hcc 2 _ rfl
                have c3 := hcc 3 _ rfl
                have c4 := hcc 4 _ rfl
                rw [Nat.add_zero] at c0
                have e1 : (m : Int) < (n : Int) := by omega
                generalize acts[m] = x at *
                obtain ⟨x0, x1, x2, x3, x4⟩ := x
                simp only [] at c0 c1 c2 c3 c4 HNE
                clear hcc dc dl hne HQ
                have HAM := Lib.hid (fun W h => arm_any g b l x2 x4 W h (by have := HOL.out.2.1; omega))
                have HCN := Lib.hid (fun W h => cancel_any g b l x2 W h)
                have HLA := Lib.hid (show okT (armL l x2 x4) ∧ mget (armL l x2 x4) name = runsV ok ticks ((m : Int) + 1) from ⟨ok_arm HOL.out _ _, by rw [mget_arm HOL.out.1, if_neg (fun h => HNE.out h.2.symm)]; exact HGL.out⟩)
                have HLC := Lib.hid (show okT (mdel l x2) ∧ mget (mdel l x2) name = runsV ok ticks ((m : Int) + 1) from ⟨ok_del HOL.out _, by rw [mget_del HOL.out.1, if_neg (fun h => HNE.out h.symm)]; exact HGL.out⟩)
                unfold cancelP at HCN
                have hpar : ∀ u : Int, x0.tmod 2 = u → ((u == 0) = true ∨ (u == 0) = false) := fun u _ => by cases h : (u == 0) <;> simp
                have hp2 := hpar _ rfl
                clear hpar
                rcases hp2 with hp2 | hp2
                all_goals
                  go_wp2_with (first
                    | (go_at_call 36; (with_reducible refine (HAM.out _ ?_).mono ?_); exact (HT.out.alloc _).now; rintro e w3 ⟨rfl, ht3⟩; have HT3 := Lib.hid ((HT.out.alloc _).trans ht3); clear ht3)
                    | (go_at_call 37; (with_reducible refine (HCN.out _ ?_).mono ?_); exact (HT.out.alloc _).now; rintro e w3 ⟨rfl, ht3⟩; have HT3 := Lib.hid ((HT.out.alloc _).trans ht3); clear ht3))
                  go_meet
                  first
                    | exact ⟨rfl, _, HLA.out.1, HLA.out.2, HT3.out⟩
                    | exact ⟨rfl, _, HLC.out.1, HLC.out.2, HT3.out⟩
            case rest =>
              obtain ⟨rfl, l', hol', hgl', ht'⟩ := hcut
              have HT' := Lib.hid ht'
              have HOL' := Lib.hid hol'
              clear HT HOL HGL HQ
              have HLF := Lib.hid (fun W h => left_any g b l' name W h)
              have HTK := Lib.hid (fun W h => tick_any g b l' W h hol'.1 (by have := hol'.2.1; omega) hol'.2.2)
              have HCT := Lib.hid (fun o hp => told_count (l := l') hol'.1 (o := o) hp name)
              have HNX := Lib.hid (show okT (cur l' []) ∧ mget (cur l' []) name = (mget l' name).bind (fun v => if v = 1 then none else some (v - 1)) from ⟨ok_cur hol', mget_cur hol'.1 name⟩)
              unfold leftP at HLF
              rw [hgl'] at HLF HCT HNX
              clear ht' hol' hgl'
              have hcase : ∃ (rb nb : Bool) (lv : Int) (tc : Nat), runsV ok ticks ((m : Int) + 1) = (if rb then some lv else none) ∧ (ok = true ∧ decide ((m : Int) + 1 ≤ ticks) = rb ∧ decide ((m : Int) < ticks) = rb ∧ ((m : Int) + 1 == ticks) = nb ∨ ok = false ∧ rb = false ∧ nb = false) ∧ (rb = true → lv = ticks - ((m : Int) + 1) + 1) ∧ (if (if rb then some lv else none) = some 1 then 1 else 0) = tc ∧
                  ((tc = 1 ∧ nb = true) ∨ (tc = 0 ∧ nb = false)) ∧ ((if rb then some lv else none).bind (fun v : Int => if v = 1 then none else some (v - 1))) = runsV ok ticks ((m : Int) + 1 + 1) := by
                unfold runsV
                by_cases ho : ok = true
                · rcases Int.lt_trichotomy ((m : Int) + 1) ticks with h | h | h
                  · refine ⟨true, false, ticks - ((m : Int) + 1) + 1, 0, by rw [if_pos ⟨ho, by omega⟩]; rfl, Or.inl ⟨ho, by simp; omega, by simp; omega, by simp; omega⟩, fun _ => rfl, by simp; omega, Or.inr ⟨rfl, rfl⟩, ?_⟩
                    simp only [if_true, Option.bind_some]
                    rw [if_neg (show ¬ ticks - ((m : Int) + 1) + 1 = 1 by omega), if_pos ⟨ho, by omega⟩]
                    congr 1
                    omega
                  · refine ⟨true, true, ticks - ((m : Int) + 1) + 1, 1, by rw [if_pos ⟨ho, by omega⟩]; rfl, Or.inl ⟨ho, by simp; omega, by simp; omega, by simp; omega⟩, fun _ => rfl, by simp; omega, Or.inl ⟨rfl, rfl⟩, ?_⟩
                    simp only [if_true, Option.bind_some]
                    rw [if_pos (show ticks - ((m : Int) + 1) + 1 = 1 by omega), if_neg (by omega)]
                  · refine ⟨false, false, 0, 0, by rw [if_neg (by omega)]; rfl, Or.inl ⟨ho, by simp; omega, by simp; omega, by simp; omega⟩, (fun h => by cases h), by simp, Or.inr ⟨rfl, rfl⟩, ?_⟩
                    simp only [Bool.false_eq_true, if_false, Option.bind_none]
                    rw [if_neg (by omega)]
                · have ho : ok = false := by simpa using ho
                  subst ho
                  exact ⟨false, false, 0, 0, by simp, Or.inr ⟨rfl, rfl, rfl⟩, (fun h => by cases h), by simp, Or.inr ⟨rfl, rfl⟩, by simp⟩
              obtain ⟨rb, nb, lv, tc, hrv, hok2, hlv, htc, htn, hnx⟩ := hcase
              rw [hrv] at HLF HCT HNX
              rw [htc] at HCT
              rw [hnx] at HNX
              have hEO := HEO.out.2
              have hlv2 : rb = true → (lv != ticks - ((m : Int) + 1) + 1) = false := fun h => by simp [hlv h]
              clear hlv hrv htc hnx
              have HCT2 := Lib.hid (fun (o : List (List UInt8)) (hp : o.Perm (told l' [])) => HCT.out o hp)
              have HOB := Lib.hid (fun (o : List (List UInt8)) (hp : o.Perm (told l' [])) => show o.length ≤ 1000000 from by rw [hp.length_eq]; exact Nat.le_trans (told_len l' []) (by have := HOL'.out.2.1; omega))
              clear HCT HOL'
              obtain ⟨lv0, hlv0, hlv3⟩ : ∃ lv0 : Int, (if rb = true then some lv else none).getD 0 = lv0 ∧ (rb = true → (lv0 != ticks - ((m : Int) + 1) + 1) = false) := by
                cases rb
                · exact ⟨0, rfl, fun h => by cases h⟩
                · exact ⟨lv, rfl, hlv2⟩
              have his : (if rb = true then some lv else none).isSome = rb := by cases rb <;> rfl
              rw [hlv0, his] at HLF
              clear hlv0 his hlv2
              go_upto_region 18 with (go_at_call 38; (with_reducible refine (HLF.out _ HT'.out.now).mono ?_); rintro e w3 ⟨rfl, rfl⟩)
              go_cut [13] (fun s13 wx => s13 = .bool rb ∧ wc = wx)
              case first =>
                rcases hok2 with ⟨rfl, h1, h2, h3⟩ | ⟨rfl, rfl, rfl⟩
                all_goals
                  go_wp2_with fail
                  go_meet
                  exact ⟨rfl, rfl⟩
              case rest =>
                obtain ⟨rfl, rfl⟩ := hcut
                clear HLF
                go_upto_region 19 with fail
                go_cut [96] (fun s96 wx => s96 = .bool false ∧ wc = wx)
                case first =>
                  have hkk : rb = true → ok = true := fun h => by
                    rcases hok2 with ⟨h1, _⟩ | ⟨_, h1, _⟩
                    · exact h1
                    · rw [h1] at h; cases h
                  clear hok2
                  cases rb
                  · go_wp2_with fail
                    go_meet
                    exact ⟨rfl, rfl⟩
                  · have hlv4 := hlv3 rfl
                    obtain ⟨hb1, hb2⟩ := HEO.out.1 (hkk rfl)
                    go_wp2_with fail
                    go_meet
                    exact ⟨rfl, rfl⟩
                case rest =>
                obtain ⟨rfl, rfl⟩ := hcut
                clear hlv3
                go_wp2_with (go_at_call 39; (with_reducible refine (HTK.out _ HT'.out.now).mono ?_); rintro e w4 ⟨o, Ao, co, hp, rfl, ht4⟩; have HC4 := Lib.hid (HCT2.out o hp); have HB4 := Lib.hid (HOB.out o hp); have HT4 := Lib.hid (HT'.out.trans ht4); clear ht4 hp)
                go_loopw [14, 100] (fun x14 x100 wr => ∃ j : Nat, x100 = .int .i64 j ∧ j ≤ o.length ∧ x14 = .int .i64 (((srtK o).take j).count name : Nat) ∧ w4 = wr) (fun _ x100 _ => o.length - (intOf x100).toNat)
                case atStart => exact ⟨0, rfl, Nat.zero_le _, by simp, rfl⟩
                case round =>
                  obtain ⟨j, rfl, hj, rfl, rfl⟩ := hrel
                  have hB4 := HB4.out
                  by_cases hjl : j < o.length
                  · have e1 : decide ((j : Int) < (o.length : Int)) = true := by simp; omega
                    have e2 : decide (j < o.length) = true := by simpa using hjl
                    have hjs : j < (srtK o).length := by rw [srt_len]; exact hjl
                    obtain ⟨gA, rfl, c0⟩ := row_cellT HT4.out.now.1 j (encStr (srtK o)[j]) (by simp [hjs])
                    have HS := Lib.hid (show ((srtK o).take (j + 1)).count name = ((srtK o).take j).count name + (if (srtK o)[j] = name then 1 else 0) from by
                      rw [List.take_succ_eq_append_getElem hjs, List.count_append, List.count_singleton]
                      simp)
                    have hcb : ((srtK o).take j).count name ≤ j := Nat.le_trans List.count_le_length (by simp; omega)
                    generalize ((srtK o).take j).count name = cn at *
                    generalize (srtK o)[j] = x at *
                    by_cases hx : x = name
                    · subst hx
                      go_wp2_with fail
                      go_roundw
                      case rel => exact ⟨j + 1, rfl, by omega, by rw [HS.out, if_pos rfl]; rfl, trivial⟩
                      case measure => simp only [intOf]; omega
                    · have e4 : (x == name) = false := by simpa using hx
                      go_wp2_with fail
                      go_roundw
                      case rel => exact ⟨j + 1, rfl, by omega, by rw [HS.out, if_neg hx]; rfl, trivial⟩
                      case measure => simp only [intOf]; omega
                  · have hje : j = o.length := by omega
                    subst hje
                    have e1 : decide ((o.length : Int) < (o.length : Int)) = false := by simp
                    have hc : ((srtK o).take o.length).count name = tc := by rw [← srt_len o, List.take_length]; exact HC4.out
                    rw [hc]
                    clear hc HC4 HCT2 HTK
                    have HRL := Lib.hid (show ∃ (m' : Nat) (l : Tb), (Value.int .i64 ((m : Int) + 1 + 1) = .int .i64 ((m' : Int) + 1)) ∧ m' ≤ 1025 ∧ okT l ∧ mget l name = runsV ok ticks ((m' : Int) + 1) ∧ Turns w w4 Hp.Own.emp (tbO g b l) from ⟨m + 1, cur l' [], rfl, by omega, HNX.out.1, HNX.out.2, HT4.out.dropL⟩)
                    clear HNX
                    rcases hok2 with ⟨rfl, h1, h2, h3⟩ | ⟨rfl, rfl, rfl⟩
                    · rcases htn with ⟨rfl, rfl⟩ | ⟨rfl, rfl⟩
                      all_goals
                        go_wp2_with fail
                        go_roundw
                        case rel => exact HRL.out
                        case measure => simp only [intOf]; omega
                    · obtain ⟨rfl⟩ : tc = 0 := by
                        rcases htn with ⟨_, h⟩ | ⟨h, _⟩
                        · cases h
                        · exact h
                      go_wp2_with fail
                      go_roundw
                      case rel => exact HRL.out
                      case measure => simp only [intOf]; omega
        · have hd : decide ((m : Int) + 1 ≤ 1025) = false := by simp; omega
          have hd' : decide (m ≤ 1024) = false := by simpa using hlt
          have hd2 : decide ((m : Int) ≤ 1024) = false := by simp; omega
          have hd3 : ¬ (m : Int) + 1 ≤ 1025 := by omega
          go_wp2_with fail
          go_ret
          exact ⟨rfl, HT.out.chg.below (fun _ h => h.elim) (Nat.le_refl _)⟩
theorem runs_arg (a0 : ByteArray) (a1 : Int) (v2 : Value) (h0 : a0.size ≤ 140737488351232) (h1 : (Lit.int .i64 a1).wf = true) (w : World) (h2 : ArgOk Try.prog w 70 v2) :
    Calls Try.prog 7 #[.string a0, .int .i64 a1, v2] w fun e w' => e = .returned (.bool true) ∧ Below w.heap.size w w' := by
  obtain ⟨A, n, c, l, rfl, hn, hl, hb⟩ := ArgOk.slR (R := AcR) Try.underlying70 Try.cells_act3 (by omega) Try.bytes_act3 (fun _ h => act_open h) h2
  rw [str_list]
  exact runs_any a0.data.toList a1 A n c l w h1 hl hn (by omega)
end Go.Proofs.Ytmpkjfengfgagaa.Ts
