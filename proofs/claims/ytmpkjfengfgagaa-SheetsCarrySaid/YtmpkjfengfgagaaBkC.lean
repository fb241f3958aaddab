/- Package sheets: bytes: slices.Clone, bytes.Equal. -/
import Derived.Test.YtmpkjfengfgagaaBkB
import Derived.Shelf.Bytes.Small
import Derived.Lib.BufferRead
import Derived.Laws.IdiomStrings
import Derived.Lib.SlBytesConst
namespace Go.Proofs.Ytmpkjfengfgagaa.Bk
open Go.RowKit Go.Hp
attribute [local go_sem] min2_lean min_two max2_lean max_two
set_option linter.unusedSimpArgs false
set_option linter.unusedVariables false
set_option maxRecDepth 100000
theorem Try.info5 : (Try.prog.info? 5).map (fun i => (i.zero, i.size, i.bytes)) = some (some ((.int .u8 0)), 1, 1) := by kernel_rfl
open Go.Shelf in
def lays115_ren : Go.Shelf.Ren := ⟨fun | 115 => 72 | n => n, fun | 37 => 32 | 4 => 4 | 9 => 9 | 5 => 5 | n => n, fun | n => n⟩
theorem lays115 : Go.Proofs.Lays.n115 Try.prog lays115_ren := {
  mixed := by kernel_rfl
  f115 := Try.func72.trans (congrArg some (by kernel_rfl))
  t4 := Try.underlying4
  a4 := Try.isAgg4
  z4 := Try.sizeOf4
  v4 := Try.zeroValue4
  t9 := Try.underlying9
  a9 := Try.isAgg9
  z9 := Try.sizeOf9
  v9 := Try.zeroValue9
  t37 := Try.underlying32
  a37 := Try.isAgg32
  z37 := Try.sizeOf32
  v37 := Try.zeroValue32 }
def bv (x : UInt8) : Value := .int .u8 (x.toNat : Int)
theorem one_bv (l : List UInt8) : ∀ u ∈ l.map bv, u.oneCell' = true := fun u hu => by obtain ⟨b, _, rfl⟩ := List.mem_map.1 hu; rfl
/-- Bytes that can be read. -/
abbrev Byt (w : World) (v : Value) (l : List UInt8) : Prop := Src w v l.length 1 (l.map bv)
theorem conv_src (w : World) (v : Value) (l : List UInt8) (h : Byt w v l) : (convert 32 9 v).run Try.prog w = .ok (.string ⟨l.toArray⟩) w := by
  rcases h.2 with ⟨c, rfl, h0⟩ | ⟨ad, c, rfl, hc⟩
  · have : l = [] := List.eq_nil_of_length_eq_zero h0
    subst this
    exact Lib.run_convert_nil_bytes w 32 9 5 c Try.underlying32 Try.underlying5 Try.underlying9
  · exact run_convert_bytes_back w 32 9 5 ad c l Try.underlying32 Try.underlying5 Try.underlying9 (fun j hj => hc j _ (by simp [hj, bv]))
theorem nums_bytes (l : List UInt8) : strOfNums (l.map fun x => (x.toNat : Int)) = ⟨l.toArray⟩ := by
  unfold strOfNums
  rw [List.map_map]
  congr 2
  have : ((fun n : Int => UInt8.ofNat n.toNat) ∘ fun x : UInt8 => (x.toNat : Int)) = id := by
    funext x
    simp
  rw [this, List.map_id]
theorem equal_any (v1 v2 : Value) (l1 l2 : List UInt8) (w : World) (h1 : Byt w v1 l1) (h2 : Byt w v2 l2) : Calls Try.prog 72 #[v1, v2] w fun e w' => e = .returned (.bool (l1 == l2)) ∧ w' = w := by
  have k1 := conv_src w v1 l1 h1
  have k2 := conv_src w v2 l2 h2
  have e : ∀ l : List UInt8, (⟨l.toArray⟩ : ByteArray) = strOfNums (l.map fun x => (x.toNat : Int)) := fun l => (nums_bytes l).symm
  rw [e] at k1 k2
  have hb : ∀ l : List UInt8, Lib.bytesOf (l.map fun x => (x.toNat : Int)) = l := fun l => by
    have : (strOfNums (l.map fun x => (x.toNat : Int))).data.toList = l := by rw [nums_bytes]
    exact this
  have := Any.bytes_Equal lays115 v1 v2 _ _ w k1 k2
  rw [hb, hb] at this
  exact this
theorem byt_keep {w w' : World} {v : Value} {l : List UInt8} (h : Byt w v l) (hc : Chg (fun _ => False) w w') : Byt w' v l := by
  refine ⟨h.1, ?_⟩
  rcases h.2 with h | ⟨ad, c, rfl, hcell⟩
  · exact Or.inl h
  · refine Or.inr ⟨ad, c, rfl, fun j u hu => ?_⟩
    have hl : (ad.add j).block < w.heap.size := by
      rcases Nat.lt_or_ge (ad.add j).block w.heap.size with hlt | hge
      · exact hlt
      · have h1 : w.heap[(ad.add j).block]? = none := Array.getElem?_eq_none hge
        have h2 := hcell j u hu
        simp [World.cell?, h1] at h2
    exact (hc.cell hl (fun h => h)).trans (hcell j u hu)
theorem clone_any (A : Option Addr) (n c : Nat) (l : List UInt8) (w : World) (hx : Byt w (.slice A n c) l) (hn : n ≤ 140737488351232) :
    Calls Try.prog 69 #[.slice A n c] w fun r w' => ∃ A' c', r = .returned (.slice A' n c') ∧ l.length = n ∧ Turns w w' Hp.Own.emp (Hp.Own.row 5 1 (.slice A' n c') n (l.map bv)) := by
  have hln : l.length = n := by
    rcases hx.2 with ⟨c', h, h0⟩ | ⟨ad, c', h, _⟩
    · have := (Value.slice.inj h).2.1; omega
    · exact (Value.slice.inj h).2.1.symm
  have HX2 : Hid (Src (w.alloc (.cells #[] 5)) (.slice A n c) n 1 (l.map bv)) := Lib.hid (by have h : Src (w.alloc (.cells #[] 5)) (.slice A n c) l.length 1 (l.map bv) := byt_keep hx ((Chg.refl (fun _ => False) w).alloc (.cells #[] 5)); rwa [hln] at h)
  have HL := Lib.hid (Turns.row_lit w Hp.Own.emp #[] 5 1 0 (by simp [maxLen]) rfl)
  have HLN := Lib.hid hln
  obtain ⟨i0, hi0, hza0, hzb0, hzc0⟩ := info_parts Try.info5
  have hnil := fun (w : World) A n c => Lib.run_eql_slice_nil (P := Try.prog) w 32 5 A n c 0 0 Try.underlying32
  cases A with
  | none =>
    have h0 : n = 0 := by
      rcases hx.2 with ⟨c', h, _⟩ | ⟨ad, c', h, _⟩
      · rw [hln] at *; omega
      · have := (Value.slice.inj h).1; cases this
    subst h0
    have hxs : l = [] := List.eq_nil_of_length_eq_zero hln
    subst hxs
    clear hx hln
    go_enter Try.func69, Try.ntmps69
    go_wp2_with fail
    go_ret
    exact ⟨none, 0, rfl, ⟨Chg.refl _ _, World.ownsRow_nil _ _ _ _, fun b hb => by cases hb⟩⟩
  | some ad =>
    clear hx hln
    go_enter Try.func69, Try.ntmps69
    go_wp2_with (at_builtin; refine wpList_appS _ rfl (.tmp 5) (.tmp 6) 32 rfl 5 i0 (.int .u8 0) 1 1 Try.underlying32 hi0 hza0 hzb0 hzc0 rfl (by decide) _ 0 [] rfl HL.out.now _ n (l.map bv) rfl HX2.out (one_bv l) (by simp only [maxLen]; omega) (by omega) ?_; intro A5 c5 w5 ht5; have HT5 := Lib.hid ht5; clear ht5)
    go_ret
    have h5 : Turns w w5 Hp.Own.emp (Hp.Own.row 5 1 (.slice A5 n c5) n (l.map bv)) := by
      have := HL.out.trans HT5.out
      simpa using this
    exact ⟨A5, c5, by simp [Array.getD], HLN.out, h5⟩
end Go.Proofs.Ytmpkjfengfgagaa.Bk
