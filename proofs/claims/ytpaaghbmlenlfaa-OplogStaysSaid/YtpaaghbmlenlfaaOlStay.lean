/- OplogStays walked. -/
import Derived.Test.YtpaaghbmlenlfaaOlLog
import Derived.OwnWalk
import Derived.Deep.AppendLies
namespace Go.Proofs.Ytpaaghbmlenlfaa.Ol
open Go.RowKit Go.Hp
attribute [local go_sem] min2_lean min_two max2_lean max_two
set_option linter.unusedSimpArgs false
set_option linter.unusedVariables false
set_option maxRecDepth 100000

/-- What the law has: the log, and the list of all that was added. -/
inductive Ix where
  | log
  | all
  deriving DecidableEq
def fam (s : LogS) (va : Value) (L : List En) : Ix → Own
  | .log => s.own
  | .all => Own.row 51 7 va L.length (flat L)
/-- The script's acts, as far as they are read: Kind, Op, the entry. -/
def ActsAt (w : World) (A : Option Addr) (len : Nat) : Prop :=
  ∀ i, i < len → ∃ (b off : Nat) (k lg op mo : Int) (e : En) (la : Option Addr) (ln lc : Nat), A = some ⟨b, off, none⟩ ∧ b < w.heap.size ∧ w.cell? ⟨b, off + i * 12, none⟩ = some (.int .i64 k) ∧ w.cell? ⟨b, off + i * 12 + 1, none⟩ = some (.int .i64 lg) ∧
    w.cell? ⟨b, off + i * 12 + 2, none⟩ = some (.int .i64 op) ∧ w.cell? ⟨b, off + i * 12 + 3, none⟩ = some (.int .i64 mo) ∧
    w.cell? ⟨b, off + i * 12 + 4, none⟩ = some (.int .i64 e.c) ∧ w.cell? ⟨b, off + i * 12 + 5, none⟩ = some (.int .i64 e.n) ∧ w.cell? ⟨b, off + i * 12 + 6, none⟩ = some (.int .i64 e.k) ∧
    w.cell? ⟨b, off + i * 12 + 7, none⟩ = some (.string e.nm) ∧ w.cell? ⟨b, off + i * 12 + 8, none⟩ = some (.string e.tx) ∧ w.cell? ⟨b, off + i * 12 + 9, none⟩ = some (.int .i64 e.nu) ∧ w.cell? ⟨b, off + i * 12 + 10, none⟩ = some (.int .i64 e.mo) ∧
    w.cell? ⟨b, off + i * 12 + 11, none⟩ = some (.slice la ln lc)

structure StI (room base : Nat) (s : LogS) (L : List En) : Prop where
  ok : s.ok
  hroom : s.es.length = room
  hbase : s.base = (base : Int)
  len : base + s.many + 1 = L.length
  same : ∀ i, i < s.many → s.list[i]? = L[base + 1 + i]?
theorem StI.cut {room base op : Nat} {s : LogS} {L : List En} (h : StI room base s L) (h1 : base ≤ op) (h2 : op < L.length) : StI room op { s.drop (op - base) with base := (op : Int) } L := by
  have hl := h.len
  have hb := h.hbase
  refine ⟨LogS.drop_ok h.ok (op - base) (by omega) op (by rw [hb]; omega), h.hroom, rfl, by simp [LogS.drop]; omega, fun i hi => ?_⟩
  have hi : i < s.many - (op - base) := hi
  show (s.drop (op - base)).list[i]? = _
  rw [s.drop_list h.ok _ (by omega), List.getElem?_drop, h.same _ (by omega), show base + 1 + (op - base + i) = op + 1 + i by omega]
theorem StI.add {room base : Nat} {s : LogS} {L : List En} (h : StI room base s L) (e : En) (hm : s.many < room) (hL : L.length ≤ 1099511627776) : StI room base (s.add e) (L ++ [e]) := by
  have hl := h.len
  have hb := h.hbase
  have hr := h.hroom
  refine ⟨LogS.add_ok h.ok e (by omega) (by rw [hb]; omega), by simpa [LogS.add] using hr, hb, by simp [LogS.add]; omega, fun i hi => ?_⟩
  have hi : i < s.many + 1 := hi
  rw [s.add_list h.ok e (by omega)]
  by_cases h1 : i < s.many
  · rw [List.getElem?_append_left (by rw [s.list_len]; exact h1), List.getElem?_append_left (by omega)]
    exact h.same i h1
  · have : i = s.many := by omega
    subst this
    rw [List.getElem?_append_right (by rw [s.list_len]; omega), List.getElem?_append_right (by omega), s.list_len, show base + 1 + s.many - L.length = s.many - s.many by omega]

theorem stay_cells {w0 W : World} {room base : Nat} {s : LogS} {L : List En} {va : Value} {g : Nat} (h : Sep w0 W (fam s va L)) (hI : StI room base s L) (hg : s.g = g) :
    W.cell? ⟨g, 0, none⟩ = some (.int .i64 base) ∧ W.cell? ⟨g, 1, none⟩ = some (.slice (some ⟨s.pb, 0, none⟩) room room) ∧ W.cell? ⟨g, 3, none⟩ = some (.int .i64 s.many) ∧ s.many ≤ room := by
  obtain ⟨h0, h1, _, h3⟩ := LogS.cells (h.all .log)
  subst hg
  refine ⟨by rw [h0, hI.hbase], by rw [h1, hI.hroom], h3, ?_⟩
  have := hI.ok.m
  rw [hI.hroom] at this
  exact this
set_option maxHeartbeats 2000000 in
theorem stays_yes (room : Nat) (A : Option Addr) (len cap : Nat) (w : World) (h : 1 ≤ room) (h2 : room ≤ 64) (hA : ActsAt w A len) (hlen : len * 128 ≤ 140737488351232) :
    Calls Try.prog 9 #[.int .i64 room, .slice A len cap] w fun e w' => e = .returned (.bool true) ∧ Below w.heap.size w w' := by
  have HA := Lib.hid hA
  have hd1 : decide ((room : Int) < 1) = false := by simp; omega
  have hd2 : decide (64 < (room : Int)) = false := by simp; omega
  clear hA
  go_enter Try.func9, Try.ntmps9
  go_wp2_with (first
    | (go_at_call 21; refine (new_yes room _ h h2).mono ?_; rintro r w1 ⟨g, pb, rfl, ht1⟩))
  have HS1 := Lib.hid ((Sep.start (ι := Ix) w).turn .log ht1)
  refine (add_any (LogS.mk g pb 0 0 0 (List.replicate room En.zero)) ⟨0, 5, 0, ByteArray.empty, ByteArray.empty, 0, 0⟩ _ (by exact HS1.out.all .log) ⟨by simpa using h, by simpa using h2, by simp; omega, by simp, by simp, by simp⟩ (by simp; omega) (by simp)).mono ?_
  rintro r w2 ⟨rfl, ht2⟩
  have HS2 := Lib.hid (HS1.out.turn .log ht2)
  have HS3 := Lib.hid ((HS2.out.turn .all (Turns.row_lit w2 _ (flat [En.zero, ⟨0, 5, 0, ByteArray.empty, ByteArray.empty, 0, 0⟩]).toArray 51 7 2 (by decide) rfl)).as (G := fam (LogS.mk g pb 0 0 1 ((List.replicate room En.zero).set 0 ⟨0, 5, 0, ByteArray.empty, ByteArray.empty, 0, 0⟩)) (.slice (some ⟨w2.heap.size, 0, none⟩) 2 2) [En.zero, ⟨0, 5, 0, ByteArray.empty, ByteArray.empty, 0, 0⟩]) (fun i => by cases i <;> simp [upd, fam, LogS.add]))
  clear ht1 ht2
  go_wp2_with fail
  have HI0 : Hid (StI room 0 (LogS.mk g pb 0 0 1 ((List.replicate room En.zero).set 0 ⟨0, 5, 0, ByteArray.empty, ByteArray.empty, 0, 0⟩)) [En.zero, ⟨0, 5, 0, ByteArray.empty, ByteArray.empty, 0, 0⟩]) :=
    ⟨⟨by simpa using h, by simpa using h2, by simp; omega, by simp; omega, by simp, by simp⟩, by simp, rfl, rfl, fun i hi => by
      have : i = 0 := by simp at hi; exact hi
      subst this
      simp [LogS.list, show 0 < room by omega]⟩
  go_loopw [7, 8, 51] (fun va b c wr => ∃ (k base pb first many : Nat) (es L : List En), k ≤ len ∧ c = .int .i64 k ∧ b = .int .i64 base ∧ L.length ≤ k + 2 ∧ StI room base (LogS.mk g pb base first many es) L ∧ Sep w wr (fam (LogS.mk g pb base first many es) va L)) (fun _ _ c _ => len - (intOf c).toNat)
  case atStart => exact ⟨0, 0, pb, 0, 1, _, _, by omega, rfl, rfl, by simp, HI0.out, HS3.out⟩
  case round =>
    clear HI0 HS1 HS2 HS3
    obtain ⟨k, base, pb, first, many, es, L, hk, rfl, rfl, hL, hI, hS⟩ := hrel
    have hil := hI.len
    simp only [] at hil
    have hm := hI.ok.m
    have hr := hI.hroom
    simp only [] at hm hr
    have HR := Lib.hid hr
    have hmr : many ≤ room := by omega
    have HI := Lib.hid hI
    have HS := Lib.hid hS
    obtain ⟨gl, cl, hva, hgl, _⟩ := row_form (hS.all .all) (show 1 ≤ L.length by omega)
    subst hva
    clear hr hm hI hS
    by_cases hlt : k < len
    · obtain ⟨b, off, kd, lg, op, mo, e, la, ln, lc, rfl, hb, q0, q1, q2, q3, q4, q5, q6, q7, q8, q9, q10, q11⟩ := HA.out k hlt
      have hd : decide ((k : Int) < (len : Int)) = true := by simp; omega
      have bel := HS.out.bel
      have hbw : b < wr.heap.size := Nat.lt_of_lt_of_le hb bel.size
      rw [← bel.cell (p := ⟨b, _, none⟩) hb] at q0 q1 q2 q3 q4 q5 q6 q7 q8 q9 q10 q11
      clear bel hb
      obtain ⟨c, n, kk, nm, tx, nu, mm⟩ := e
      have HSO := Lib.hid (HS.out.alloc (.cells #[.int .i64 kd, .int .i64 lg, .int .i64 op, .int .i64 mo, .int .i64 c, .int .i64 n, .int .i64 kk, .string nm, .string tx, .int .i64 nu, .int .i64 mm, .slice la ln lc] 54))
      by_cases hkd : kd.tmod 4 = 0
      · have hk1 : (kd.tmod 4 == 0) = true := by simpa using hkd
        by_cases ho : (base : Int) ≤ op ∧ op < (L.length : Int)
        · obtain ⟨ho1, ho2⟩ := ho
          obtain ⟨opn, rfl⟩ := Int.eq_ofNat_of_zero_le (show 0 ≤ op by omega)
          have HIn := Lib.hid (HI.out.cut (op := opn) (by omega) (by omega))
          have hom : opn - base ≤ many := by omega
          have hoe : (opn : Int) = (base : Int) + ((opn - base : Nat) : Int) := by omega
          have Hoe := Lib.hid hoe
          clear hoe
          go_wp2_with fail
          refine (cut_any (LogS.mk g pb base first many es) (opn - base) opn _ (by exact HSO.out.all .log) HI.out.ok hom Hoe.out).mono ?_
          rintro r w3 ⟨rfl, ht3⟩
          have HSn := Lib.hid ((HSO.out.turn .log ht3).as (G := fam ({ (LogS.mk g pb base first many es).drop (opn - base) with base := (opn : Int) } : LogS) (.slice (some ⟨gl, 0, none⟩) L.length cl) L) (fun i => by cases i <;> rfl))
          have hx2 : w3.cell? ⟨wr.heap.size, 2, none⟩ = some (.int .i64 opn) := (ht3.chg.cell (p := ⟨wr.heap.size, 2, none⟩) (by simp) (fun hf => by have := (LogS.mk g pb base first many es).own.lt (HS.out.all .log) _ hf; simp at this)).trans (by simp)
          clear ht3
          have hc := stay_cells HSn.out HIn.out (show ({ (LogS.mk g pb base first many es).drop (opn - base) with base := (opn : Int) } : LogS).g = g from rfl)
          have C0 := Lib.hid hc.1
          have C1 := Lib.hid hc.2.1
          have C3 := Lib.hid hc.2.2.1
          have hmr2 : (many - (opn - base)) ≤ room := hc.2.2.2
          have hl2 : opn + (many - (opn - base)) + 1 = L.length := HIn.out.len
          clear hc
          have t2 : (((opn : Nat) : Int) + (((many - (opn - base)) : Nat) : Int) != ((L.length : Nat) : Int) - 1) = false := by rw [bne_eq_false_iff_eq]; omega
          have t3 : ((room : Int) - (((many - (opn - base)) : Nat) : Int) != (room : Int) - (((L.length : Nat) : Int) - 1 - ((opn : Nat) : Int))) = false := by rw [bne_eq_false_iff_eq]; omega
          clear hl2
          go_wp2_with (first
              | (go_at_call 24; refine (base_any g opn _ (by exact C0.out)).mono ?_; rintro r w5 ⟨rfl, rfl⟩)
              | (go_at_call 25; refine (op_any g opn ((many - (opn - base) : Nat) : Int) _ (by exact C0.out) (by exact C3.out) (by omega) (by omega) (by omega) (by omega)).mono ?_; rintro r w5 ⟨rfl, n5, rfl⟩)
              | (go_at_call 26; refine (room_any g pb room room ((many - (opn - base) : Nat) : Int) _ (by exact C1.out) (by exact C3.out) h2 (by omega) (by omega)).mono ?_; rintro r w6 ⟨rfl, n6, rfl⟩))
          go_roundw
          case rel => exact ⟨k + 1, opn, _, _, _, _, L, by omega, by go_num, rfl, by omega, HIn.out, by first | exact HSn.out.drewN _ | exact HSn.out⟩
          case measure => simp [intOf]; omega
        · have hc := stay_cells HSO.out HI.out (show (LogS.mk g pb base first many es).g = g from rfl)
          have C0 := Lib.hid hc.1
          have C1 := Lib.hid hc.2.1
          have C3 := Lib.hid hc.2.2.1
          have hmr2 : many ≤ room := hc.2.2.2
          have hl2 : base + many + 1 = L.length := HI.out.len
          clear hc
          have t2 : (((base : Nat) : Int) + ((many : Nat) : Int) != ((L.length : Nat) : Int) - 1) = false := by rw [bne_eq_false_iff_eq]; omega
          have t3 : ((room : Int) - ((many : Nat) : Int) != (room : Int) - (((L.length : Nat) : Int) - 1 - ((base : Nat) : Int))) = false := by rw [bne_eq_false_iff_eq]; omega
          clear hl2
          by_cases ho1 : (base : Int) ≤ op
          · have hq1 : decide ((base : Int) ≤ op) = true := by simpa using ho1
            have hq2 : decide (op < (L.length : Int)) = false := by simp; omega
            clear ho
            go_wp2_with (first
              | (go_at_call 24; refine (base_any g base _ (by exact C0.out)).mono ?_; rintro r w5 ⟨rfl, rfl⟩)
              | (go_at_call 25; refine (op_any g base many _ (by exact C0.out) (by exact C3.out) (by omega) (by omega) (by omega) (by omega)).mono ?_; rintro r w5 ⟨rfl, n5, rfl⟩)
              | (go_at_call 26; refine (room_any g pb room room many _ (by exact C1.out) (by exact C3.out) h2 (by omega) (by omega)).mono ?_; rintro r w6 ⟨rfl, n6, rfl⟩))
            go_roundw
            case rel => exact ⟨k + 1, base, _, _, _, _, L, by omega, by go_num, rfl, by first | omega | (simp; omega), HI.out, by first | exact HSO.out.drewN _ | exact HSO.out⟩
            case measure => simp [intOf]; omega
          · have hq1 : decide ((base : Int) ≤ op) = false := by simp; omega
            clear ho
            go_wp2_with (first
              | (go_at_call 24; refine (base_any g base _ (by exact C0.out)).mono ?_; rintro r w5 ⟨rfl, rfl⟩)
              | (go_at_call 25; refine (op_any g base many _ (by exact C0.out) (by exact C3.out) (by omega) (by omega) (by omega) (by omega)).mono ?_; rintro r w5 ⟨rfl, n5, rfl⟩)
              | (go_at_call 26; refine (room_any g pb room room many _ (by exact C1.out) (by exact C3.out) h2 (by omega) (by omega)).mono ?_; rintro r w6 ⟨rfl, n6, rfl⟩))
            go_roundw
            case rel => exact ⟨k + 1, base, _, _, _, _, L, by omega, by go_num, rfl, by first | omega | (simp; omega), HI.out, by first | exact HSO.out.drewN _ | exact HSO.out⟩
            case measure => simp [intOf]; omega
      · have hk1 : (kd.tmod 4 == 0) = false := by simpa using hkd
        by_cases hfull : many = room
        · have hf1 : ((L.length : Int) - 1 - (base : Int) == (room : Int)) = true := by rw [beq_iff_eq]; omega
          have Hfull := Lib.hid hfull
          clear hfull
          go_wp2_with fail
          refine (add_full (LogS.mk g pb base first many es) (En.mk c n kk nm tx nu mm) _ (by exact HSO.out.all .log) HI.out.ok (Hfull.out.trans HI.out.hroom.symm)).mono ?_
          rintro r w3 ⟨rfl, ht3⟩
          have HSn := Lib.hid (HSO.out.kept ht3)
          clear ht3
          have hc := stay_cells HSn.out HI.out (show (LogS.mk g pb base first many es).g = g from rfl)
          have C0 := Lib.hid hc.1
          have C1 := Lib.hid hc.2.1
          have C3 := Lib.hid hc.2.2.1
          have hmr2 : many ≤ room := hc.2.2.2
          have hl2 : base + many + 1 = L.length := HI.out.len
          clear hc
          have t2 : (((base : Nat) : Int) + ((many : Nat) : Int) != ((L.length : Nat) : Int) - 1) = false := by rw [bne_eq_false_iff_eq]; omega
          have t3 : ((room : Int) - ((many : Nat) : Int) != (room : Int) - (((L.length : Nat) : Int) - 1 - ((base : Nat) : Int))) = false := by rw [bne_eq_false_iff_eq]; omega
          clear hl2
          go_wp2_with (first
            | (go_at_call 24; refine (base_any g base _ (by exact C0.out)).mono ?_; rintro r w5 ⟨rfl, rfl⟩)
            | (go_at_call 25; refine (op_any g base many _ (by exact C0.out) (by exact C3.out) (by omega) (by omega) (by omega) (by omega)).mono ?_; rintro r w5 ⟨rfl, n5, rfl⟩)
            | (go_at_call 26; refine (room_any g pb room room many _ (by exact C1.out) (by exact C3.out) h2 (by omega) (by omega)).mono ?_; rintro r w6 ⟨rfl, n6, rfl⟩))
          go_roundw
          case rel => exact ⟨k + 1, base, _, _, _, _, L, by omega, by go_num, rfl, by first | omega | (simp; omega), HI.out, by first | exact HSn.out.drewN _ | exact HSn.out⟩
          case measure => simp [intOf]; omega
        · have hf1 : ((L.length : Int) - 1 - (base : Int) == (room : Int)) = false := by rw [beq_eq_false_iff_ne]; omega
          have hmr1 : many < room := by omega
          have hLb : L.length ≤ 1099511627776 := by omega
          have HIn := Lib.hid (HI.out.add (En.mk c n kk nm tx nu mm) hmr1 hLb)
          obtain ⟨i0, hi0, hz0, hz1, hz2⟩ := info_parts Try.info51
          have hbm : (base : Int) + (many : Int) < 1099511627776 := by omega
          go_wp2_with fail
          refine (add_any (LogS.mk g pb base first many es) (En.mk c n kk nm tx nu mm) _ (by exact HSO.out.all .log) HI.out.ok (by rw [HI.out.hroom]; exact hmr1) hbm).mono ?_
          rintro r w3 ⟨rfl, ht3⟩
          have HSm := Lib.hid (HSO.out.turn .log ht3)
          have hx4 : w3.cell? ⟨wr.heap.size, 4, none⟩ = some (.int .i64 c) := (ht3.chg.cell (p := ⟨wr.heap.size, 4, none⟩) (by simp) (fun hf => by have := (LogS.mk g pb base first many es).own.lt (HS.out.all .log) _ hf; simp at this)).trans (by simp)
          have hx5 : w3.cell? ⟨wr.heap.size, 5, none⟩ = some (.int .i64 n) := (ht3.chg.cell (p := ⟨wr.heap.size, 5, none⟩) (by simp) (fun hf => by have := (LogS.mk g pb base first many es).own.lt (HS.out.all .log) _ hf; simp at this)).trans (by simp)
          have hx6 : w3.cell? ⟨wr.heap.size, 6, none⟩ = some (.int .i64 kk) := (ht3.chg.cell (p := ⟨wr.heap.size, 6, none⟩) (by simp) (fun hf => by have := (LogS.mk g pb base first many es).own.lt (HS.out.all .log) _ hf; simp at this)).trans (by simp)
          have hx7 : w3.cell? ⟨wr.heap.size, 7, none⟩ = some (.string nm) := (ht3.chg.cell (p := ⟨wr.heap.size, 7, none⟩) (by simp) (fun hf => by have := (LogS.mk g pb base first many es).own.lt (HS.out.all .log) _ hf; simp at this)).trans (by simp)
          have hx8 : w3.cell? ⟨wr.heap.size, 8, none⟩ = some (.string tx) := (ht3.chg.cell (p := ⟨wr.heap.size, 8, none⟩) (by simp) (fun hf => by have := (LogS.mk g pb base first many es).own.lt (HS.out.all .log) _ hf; simp at this)).trans (by simp)
          have hx9 : w3.cell? ⟨wr.heap.size, 9, none⟩ = some (.int .i64 nu) := (ht3.chg.cell (p := ⟨wr.heap.size, 9, none⟩) (by simp) (fun hf => by have := (LogS.mk g pb base first many es).own.lt (HS.out.all .log) _ hf; simp at this)).trans (by simp)
          have hx10 : w3.cell? ⟨wr.heap.size, 10, none⟩ = some (.int .i64 mm) := (ht3.chg.cell (p := ⟨wr.heap.size, 10, none⟩) (by simp) (fun hf => by have := (LogS.mk g pb base first many es).own.lt (HS.out.all .log) _ hf; simp at this)).trans (by simp)
          clear ht3
          go_wp2_with (first
            | (at_builtin; refine wpList_append_own_at _ rfl (.tmp 102) (.tmp 105) 52 rfl 0 51 i0 (.agg En.zero.cells.toArray) 7 72 Try.underlying52 hi0 hz0 hz1 hz2 rfl (by decide) _ L.length _ rfl ((HSm.out.alloc _).all .all) ⟨w3.heap.size, 0, none⟩ 1 1 (En.mk c n kk nm tx nu mm).cells rfl rfl (World.news_of_block (cs := (En.mk c n kk nm tx nu mm).cells.toArray) (t := 51) (fr := (0, 0)) (heap_alloc_new w3 _)) (En.one _) (by simp only [maxLen]; omega) (by omega) (Nat.zero_le _) ?_; intro v1 w4 ho1 hg1 _ hat1; obtain ⟨gn, cn, hvn, _, _⟩ := row_form ho1 (by omega); have HSn0 := Lib.hid ((HSm.out.alloc (.cells (En.mk c n kk nm tx nu mm).cells.toArray 51)).turn .all (Turns.row ho1 hg1 hat1)); rw [hvn] at HSn0; rw [hvn]; clear ho1 hg1 hat1 hvn))
          have HSn := Lib.hid (HSn0.out.as (G := fam ((LogS.mk g pb base first many es).add (En.mk c n kk nm tx nu mm)) (.slice (some ⟨gn, 0, none⟩) (L.length + 1) cn) (L ++ [En.mk c n kk nm tx nu mm])) (fun i => by cases i; rfl; simp [upd, fam, flat_append, flat_one]))
          clear HSn0
          obtain ⟨N, hN⟩ : ∃ N, N = L.length + 1 := ⟨_, rfl⟩
          obtain ⟨m2, hm2⟩ : ∃ m2, m2 = many + 1 := ⟨_, rfl⟩
          rw [← hN] at HSn
          rw [← hN]
          have hc := stay_cells HSn.out HIn.out (show ((LogS.mk g pb base first many es).add (En.mk c n kk nm tx nu mm)).g = g from rfl)
          have C0 := Lib.hid hc.1
          have C1 : Hid (w4.cell? ⟨g, 1, none⟩ = some (.slice (some ⟨pb, 0, none⟩) room room)) := hc.2.1
          have C3 : Hid (w4.cell? ⟨g, 3, none⟩ = some (.int .i64 (m2 : Int))) := by have h3 := hc.2.2.1; rw [hm2]; exact h3
          clear hc
          have t2 : (((base : Nat) : Int) + ((m2 : Nat) : Int) != ((N : Nat) : Int) - 1) = false := by rw [bne_eq_false_iff_eq]; omega
          have t3 : ((room : Int) - ((m2 : Nat) : Int) != (room : Int) - (((N : Nat) : Int) - 1 - ((base : Nat) : Int))) = false := by rw [bne_eq_false_iff_eq]; omega
          have hbb : base ≤ 1099511627776 := by omega
          have hmr3 : m2 ≤ room := by omega
          have hN2 : 1 ≤ N := by omega
          have hN3 : N ≤ 1099511627777 := by omega
          clear hil hi0 hz0 hz1 hz2 hx4 hx5 hx6 hx7 hx8 hx9 hx10 hN hm2
          go_wp2_with (first
            | (go_at_call 24; refine (base_any g base _ (by exact C0.out)).mono ?_; rintro r w5 ⟨rfl, rfl⟩)
            | (go_at_call 25; refine (op_any g base (m2 : Int) _ (by exact C0.out) (by exact C3.out) (by omega) (by omega) (by omega) (by omega)).mono ?_; rintro r w5 ⟨rfl, n5, rfl⟩)
            | (go_at_call 26; refine (room_any g pb room room (m2 : Int) _ (by exact C1.out) (by exact C3.out) h2 (by omega) (by omega)).mono ?_; rintro r w6 ⟨rfl, n6, rfl⟩))
          go_roundw
          case rel => exact ⟨k + 1, base, _, _, _, _, (L ++ [En.mk c n kk nm tx nu mm]), by omega, by go_num, rfl, by first | omega | (simp; omega), HIn.out, by first | exact HSn.out.drewN _ | exact HSn.out⟩
          case measure => simp [intOf]; omega
    · have hd : decide ((k : Int) < (len : Int)) = false := by simp; omega
      go_wp2_with fail
      go_loopw [134] (fun c wx => ∃ i : Nat, i ≤ L.length ∧ c = .int .i64 i ∧ Sep w wx (fam (LogS.mk g pb base first many es) (.slice (some ⟨gl, 0, none⟩) L.length cl) L)) (fun c _ => L.length - (intOf c).toNat)
      case atStart => exact ⟨0, Nat.zero_le _, rfl, HS.out⟩
      case round =>
        obtain ⟨i, hi, rfl, hSx⟩ := hrel
        have HX := Lib.hid hSx
        by_cases hlt2 : i < L.length
        · have hd2 : decide ((i : Int) < (L.length : Int)) = true := by simp; omega
          obtain ⟨g', c', he', hgx, _⟩ := row_form (hSx.all .all) (show 1 ≤ L.length by omega)
          simp only [Value.slice.injEq, Option.some.injEq, Addr.mk.injEq, and_true, true_and] at he'
          obtain ⟨rfl, rfl⟩ := he'
          clear hSx
          by_cases hb : base < i
          · have hd3 : decide ((base : Int) < (i : Int)) = true := by simp; omega
            obtain ⟨e, he⟩ : ∃ e, L[i]? = some e := ⟨L[i], List.getElem?_eq_getElem hlt2⟩
            have hsame := HI.out.same (i - base - 1) (by simp only []; omega)
            rw [show base + 1 + (i - base - 1) = i by omega, he] at hsame
            have Hsame := Lib.hid hsame
            have Hidx := Lib.hid (show (i : Int) = (base : Int) + ((i - base - 1 : Nat) : Int) + 1 by omega)
            have hkm : i - base - 1 < many := by omega
            have HE := Lib.hid he
            clear hsame he
            obtain ⟨c, n, kk, nm, tx, nu, mm⟩ := e
            go_wp2_with (go_at_call 27; refine (at_yes (LogS.mk g pb base first many es) (i - base - 1) i (En.mk c n kk nm tx nu mm) _ (by exact HX.out.all .log) HI.out.ok hkm Hidx.out Hsame.out).mono ?_; rintro r w5 ⟨rfl, hk5⟩; simp only [En.cells])
            have HX5 := Lib.hid (HX.out.kept hk5)
            have hrow : ∀ j u, (En.mk c n kk nm tx nu mm).cells[j]? = some u → w5.cell? ⟨gl, i * 7 + j, none⟩ = some u := fun j u hu => by
              have hj : j < 7 := (List.getElem?_eq_some_iff.1 hu).1
              rw [World.ownsRow.cellAt (HX5.out.all .all) _ (by omega)]
              exact flat_get L i _ HE.out j u hu
            have p0 : w5.cell? ⟨gl, i * 7, none⟩ = some (.int .i64 c) := hrow 0 _ rfl
            have p1 : w5.cell? ⟨gl, i * 7 + 1, none⟩ = some (.int .i64 n) := hrow 1 _ rfl
            have p2 : w5.cell? ⟨gl, i * 7 + 2, none⟩ = some (.int .i64 kk) := hrow 2 _ rfl
            have p3 : w5.cell? ⟨gl, i * 7 + 3, none⟩ = some (.string nm) := hrow 3 _ rfl
            have p4 : w5.cell? ⟨gl, i * 7 + 4, none⟩ = some (.string tx) := hrow 4 _ rfl
            have p5 : w5.cell? ⟨gl, i * 7 + 5, none⟩ = some (.int .i64 nu) := hrow 5 _ rfl
            have p6 : w5.cell? ⟨gl, i * 7 + 6, none⟩ = some (.int .i64 mm) := hrow 6 _ rfl
            have hgx5 : gl < w5.heap.size := Nat.lt_of_lt_of_le hgx hk5.size
            have hgz5 : gl ≠ w5.heap.size := by omega
            clear hrow hk5
            go_quiet (fail)
            go_wp2_with fail
            go_roundw
            case rel => exact ⟨i + 1, by omega, by go_num, (HX5.out.alloc _).drewN _⟩
            case measure => simp [intOf]; omega
          · have hd3 : decide ((base : Int) < (i : Int)) = false := by simp; omega
            go_wp2_with (go_at_call 27; refine (at_no (LogS.mk g pb base first many es) i _ (by exact HX.out.all .log) HI.out.ok (by simp only []; omega)).mono ?_; rintro r w5 ⟨rfl, hk5⟩; simp only [En.cells, En.zero])
            have HX5 := Lib.hid (HX.out.kept hk5)
            clear hk5
            go_quiet (fail)
            go_wp2_with fail
            go_roundw
            case rel => exact ⟨i + 1, by omega, by go_num, (HX5.out.alloc _).drewN _⟩
            case measure => simp [intOf]; omega
        · have hd2 : decide ((i : Int) < (L.length : Int)) = false := by simp; omega
          clear hSx
          go_wp2_with fail
          go_ret
          exact ⟨rfl, HX.out.bel⟩
theorem stays_no (room : Int) (v : Value) (w : World) (h : room < 1 ∨ 64 < room) :
    Calls Try.prog 9 #[.int .i64 room, v] w fun e w' => e = .returned (.bool true) ∧ Below w.heap.size w w' := by
  have HN := Lib.hid (fun W => new_no room W h)
  by_cases h1 : room < 1
  · have hd1 : decide (room < 1) = true := by simpa using h1
    clear h
    go_enter Try.func9, Try.ntmps9
    go_wp2_with (go_at_call 21; refine (HN.out _).mono ?_; rintro r w1 ⟨rfl, rfl⟩)
    go_ret
    exact ⟨rfl, Below.refl _ _⟩
  · have hd1 : decide (room < 1) = false := by simpa using h1
    have hd2 : decide (64 < room) = true := by simp; omega
    clear h
    go_enter Try.func9, Try.ntmps9
    go_wp2_with (go_at_call 21; refine (HN.out _).mono ?_; rintro r w1 ⟨rfl, rfl⟩)
    go_ret
    exact ⟨rfl, Below.refl _ _⟩
end Go.Proofs.Ytpaaghbmlenlfaa.Ol
