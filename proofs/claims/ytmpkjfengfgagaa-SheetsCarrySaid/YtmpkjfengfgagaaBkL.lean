/- Package sheets: acts and sheets as arguments; a new book. -/
import Derived.Test.YtmpkjfengfgagaaBkK
import Derived.Test.YtmpkjfengfgagaaOpn
namespace Go.Proofs.Ytmpkjfengfgagaa.Bk
open Go.RowKit Go.Hp
attribute [local go_sem] min2_lean min_two max2_lean max_two
set_option linter.unusedSimpArgs false
set_option linter.unusedVariables false
set_option maxRecDepth 100000
/-- A sheet, as it is told. -/
structure ShA where
  num : Int
  at_ : Int
  d : List UInt8
structure AcS where
  kd : Int
  bk : Int
  nm : Int
  at_ : Int
  d : List UInt8
  l : List ShA
def U8R : Rd UInt8 := fun _ cs b => cs = [bv b]
theorem U8R.keeps : Rd.Keeps U8R := fun h _ => h
def ShR : Rd ShA := fun w cs s => ∃ v, cs = [.int .i64 s.num, .int .i64 s.at_, v] ∧ SlR 1 1 U8R w [v] s.d
theorem ShR.keeps : Rd.Keeps ShR := fun h hc => by
  obtain ⟨v, h1, h2⟩ := h
  exact ⟨v, h1, SlR.keeps (R := U8R) (fun h _ => h) h2 hc⟩
def ActR : Rd AcS := fun w cs a => ∃ v1 v2, cs = [.int .i64 a.kd, .int .i64 a.bk, .int .i64 a.nm, .int .i64 a.at_, v1, v2] ∧ SlR 1 1 U8R w [v1] a.d ∧ SlR 3 40 ShR w [v2] a.l
theorem ActR.keeps : Rd.Keeps ActR := fun h hc => by
  obtain ⟨v1, v2, h1, h2, h3⟩ := h
  exact ⟨v1, v2, h1, SlR.keeps (R := U8R) (fun h _ => h) h2 hc, SlR.keeps (R := ShR) (fun h hc => ShR.keeps h hc) h3 hc⟩
instance : Inhabited ShA := ⟨⟨0, 0, []⟩⟩
instance : Inhabited AcS := ⟨⟨0, 0, 0, 0, [], []⟩⟩
theorem Try.bytesU8 : Try.prog.bytesOf 5 = 1 := by kernel_rfl
theorem Try.cellsU8 : Try.prog.cellsOf 5 = 1 := by kernel_rfl
theorem Try.cellsB : Try.prog.cellsOf 32 = 1 := by kernel_rfl
theorem Try.cellsI : Try.prog.cellsOf 3 = 1 := by kernel_rfl
theorem Try.cellsSh : Try.prog.cellsOf 46 = 3 := by kernel_rfl
theorem Try.bytesSh : Try.prog.bytesOf 46 = 40 := by kernel_rfl
theorem Try.cellsLs : Try.prog.cellsOf 33 = 1 := by kernel_rfl
theorem Try.cellsAc : Try.prog.cellsOf 35 = 6 := by kernel_rfl
theorem u8_open {w : World} {cs : List Value} (h : Rdg Try.prog w 5 cs) : ∃ x, U8R w cs x := by
  obtain ⟨n, hn, hw⟩ := h.int Try.underlying5
  have hm1 : IntKind.u8.min = 0 := rfl
  have hm2 : IntKind.u8.max = 255 := rfl
  have h9 : 0 ≤ n ∧ n < 256 := by
    simp [Lit.wf, hm1, hm2] at hw
    omega
  refine ⟨UInt8.ofNat n.toNat, ?_⟩
  show cs = [bv _]
  rw [hn]
  unfold bv
  congr 2
  have : (UInt8.ofNat n.toNat).toNat = n.toNat := by simp; omega
  rw [this]
  omega
theorem bytes_open {w : World} {cs : List Value} (h : Rdg Try.prog w 32 cs) : ∃ l, SlR 1 1 U8R w cs l := Rdg.slR (R := U8R) Try.underlying32 Try.cellsU8 (by omega) Try.bytesU8 (fun _ h => u8_open h) h
theorem sh_open {w : World} {cs : List Value} (h : Rdg Try.prog w 46 cs) : ∃ x, ShR w cs x := by
  obtain ⟨hl, hf⟩ := h.struct Try.underlying46
  rw [Try.cellsSh] at hl
  match cs, hl with
  | [c0, c1, c2], _ =>
    obtain ⟨k, hk, _⟩ := (hf 0 _ rfl).int Try.underlying3
    obtain ⟨a, ha, _⟩ := (hf 1 _ rfl).int Try.underlying3
    obtain ⟨l, hs⟩ := bytes_open (hf 2 _ rfl)
    simp [Try.cellsI, Try.cellsB] at hk ha hs
    exact ⟨⟨k, a, l⟩, c2, by rw [hk, ha], hs⟩
theorem ac_open {w : World} {cs : List Value} (h : Rdg Try.prog w 35 cs) : ∃ x, ActR w cs x := by
  obtain ⟨hl, hf⟩ := h.struct Try.underlying35
  rw [Try.cellsAc] at hl
  match cs, hl with
  | [c0, c1, c2, c3, c4, c5], _ =>
    obtain ⟨k, hk, _⟩ := (hf 0 _ rfl).int Try.underlying3
    obtain ⟨b, hb, _⟩ := (hf 1 _ rfl).int Try.underlying3
    obtain ⟨n, hn, _⟩ := (hf 2 _ rfl).int Try.underlying3
    obtain ⟨a, ha, _⟩ := (hf 3 _ rfl).int Try.underlying3
    obtain ⟨d, hd⟩ := bytes_open (hf 4 _ rfl)
    obtain ⟨l, hs⟩ := Rdg.slR (R := ShR) Try.underlying33 Try.cellsSh (by omega) Try.bytesSh (fun _ h => sh_open h) (hf 5 _ rfl)
    simp [Try.cellsI, Try.cellsB, Try.cellsLs] at hk hb hn ha hd hs
    exact ⟨⟨k, b, n, a, d, l⟩, c4, c5, by rw [hk, hb, hn, ha], hd, hs⟩
/-- Bytes that came in. -/
theorem SlR.byt {w : World} {v : Value} {l : List UInt8} (h : SlR 1 1 U8R w [v] l) : ∃ A c, v = .slice A l.length c ∧ Byt w v l ∧ l.length ≤ 140737488351232 := by
  obtain ⟨A, c, h1, h2, h3⟩ := SlR.form h
  have hv : v = .slice A l.length c := by simpa using h1
  subst hv
  have h4 := SlR.src (R := U8R) bv (fun _ _ _ h => h) h2
  exact ⟨A, c, rfl, h4.2, by omega⟩
/-- What is newer does not touch what stood. -/
theorem far_chg {w0 w W : World} {X : Hp.Own} (t : Turns w0 w Hp.Own.emp X) (h : Chg X.foot w W) : Chg (fun _ => False) w0 W :=
  ⟨h.os.trans t.chg.os, h.tape.trans t.chg.tape, h.output.trans t.chg.output, Nat.le_trans t.chg.size h.size, fun k hk _ =>
    (h.block k (Nat.lt_of_lt_of_le hk t.chg.size) (fun hf => (t.near k hf).elim (fun h => h) (fun hge => by omega))).trans (t.chg.block k hk (fun h => h))⟩
theorem kept_chg {w0 w : World} {X : Hp.Own} (t : Turns w0 w Hp.Own.emp X) : Chg (fun _ => False) w0 w := t.chg.mono fun _ _ h => h.elim
def P0 : Pool := ⟨[(.slice none 0 0, [])], []⟩
theorem P0_holds (w : World) : P0.own.holds w := ⟨fun s hs => by
  obtain rfl := List.mem_singleton.1 hs
  exact ⟨⟨rfl, Or.inl ⟨0, rfl, rfl⟩⟩, fun b hb => by cases hb⟩, fun q hq => by cases hq⟩
theorem P0_foot (b : Nat) : ¬ P0.own.foot b := by
  rintro (⟨s, hs, hf⟩ | ⟨q, hq, _⟩)
  · obtain rfl := List.mem_singleton.1 hs
    cases hf
  · cases hq
theorem new_is (n : Nat) (w : World) (h1 : 1 ≤ n) (h2 : n ≤ 64) : Calls Try.prog 12 #[.int .i64 n] w fun e w' => ∃ b : Bk, e = .returned (.tuple #[.pointer (some ⟨b.g, 0, none⟩), .int .i64 0]) ∧ Bk.Is P0 b ⟨n, fun _ => 0, fun _ => []⟩ ∧
    Turns w w' Hp.Own.emp (Hp.Own.both P0.own b.own) := by
  refine (new_yes n w h1 h2).mono ?_
  rintro e w' ⟨g, pc, rfl, ht⟩
  have hr := wdF_rng h1 h2
  refine ⟨⟨g, n, wdF n, pc, fun _ => 0, fun _ => true, fun _ => 0, fun _ => .slice none 0 0⟩, rfl, ⟨⟨h1, h2, rfl, fun k _ h => (by cases h), fun i _ => List.mem_singleton.2 rfl, Tree.zero _, fun _ => ⟨Int.le_refl _, by show (0 : Int) ≤ _; omega⟩, fun _ => Nat.zero_le _, fun _ _ => rfl, fun _ => rfl⟩, rfl, rfl⟩, ?_⟩
  exact ⟨ht.chg, ⟨P0_holds _, ht.now, fun b hb _ => P0_foot b hb⟩, fun b hb => hb.elim (fun h => (P0_foot b h).elim) (ht.near b)⟩
end Go.Proofs.Ytmpkjfengfgagaa.Bk
