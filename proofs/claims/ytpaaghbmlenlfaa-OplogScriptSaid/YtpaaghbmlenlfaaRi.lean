/- A region that draws its order, in a round of a range over a function: what holds of it outside holds there. Plain. -/
import Derived.Test.YtpaaghbmlenlfaaSp
import Derived.RangeFuncNested
import Derived.Deep.RegionHeld3
import Derived.OrdersIn
namespace Go.Hp
open Go.RowKit
section
variable {P : Program} {n l : Nat} {Q : Exit → Act → World → Prop}
theorem wp_inRound {o : Oper} {a : Act} {w : World} {K : Act → World → Prop} (hd : ∀ c : Call, o.op ≠ Op.defer c) (h : o.wp P a w K Q) : o.wpIn (Fence.wide.inRound l) n P a w K Q := by
  unfold Oper.wp at h
  unfold Oper.wpIn
  refine ⟨fun _ _ => trivial, ?_⟩
  rw [Oper.semAt_eq _ _ _ hd]
  generalize (execOp a.eval o).run P w = r at *
  cases r with
  | ok x w' =>
    cases x <;> simp only [Oper.upon, Oper.uponIn] at h ⊢ <;>
      first
        | exact h
        | exact ⟨fun hf => by simp [Fence.wide, Fence.inRound] at hf, CallsIn.inRound l (callsIn_wide.2 h)⟩
        | exact ⟨fun hf => by simp [Fence.wide, Fence.inRound] at hf, fun c cs _ => let ⟨v, w2, r, s⟩ := h c cs; ⟨v, w2, r, stepsIn_wide.2 s⟩⟩
  | halt x w' => cases x <;> simp only [Oper.upon, Oper.uponIn] at h ⊢ <;> exact h
theorem wpOps_inRound {ops : Array Oper} (hd : ∀ (i : Nat) (o : Oper), ops[i]? = some o → ∀ c : Call, o.op ≠ Op.defer c) (hno : ¬ LetsOut Q) : ∀ (ks : List Nat) (a : Act) (w : World), wpOps P ops Q ks a w → wpOpsIn (Fence.wide.inRound l) n P ops Q ks a w
  | [], a, w, h => h
  | i :: rest, a, w, h => by
    simp only [wpOps, wpOpsIn] at h ⊢
    cases ho : ops[i]? with
    | none => simp only [ho] at h ⊢; exact wpOps_inRound hd hno rest a w h
    | some o =>
      simp only [ho] at h ⊢
      split
      · rename_i hw
        rw [if_pos hw] at h
        rcases h with h | ⟨_, h⟩
        · exact Oper.wpIn_mono (fun a w hk => wpOps_inRound hd hno rest a w hk) (wp_inRound (hd i o ho) h)
        · exact absurd h hno
      · rename_i hw
        rw [if_neg hw] at h
        exact ⟨fun _ _ => trivial, wpOps_inRound hd hno rest _ w h⟩
def noDefer (ops : Array Oper) : Bool := ops.all fun o => match o.op with | .defer _ => false | _ => true
theorem noDefer_spec {ops : Array Oper} (h : noDefer ops = true) (i : Nat) (o : Oper) (ho : ops[i]? = some o) (c : Call) : o.op ≠ .defer c := by
  intro e
  obtain ⟨hi, he⟩ := Array.getElem?_eq_some_iff.1 ho
  unfold noDefer at h
  rw [Array.all_eq_true] at h
  have := h i hi
  rw [he, e] at this
  cases this
/-- The law of the held regions, in a round. -/
theorem wpIn_region_heldR {id : Nat} {ops : Array Oper} {a : Act} {w : World} (S : World → Prop) (hm : P.follows .mixedOrders = true) (hd : noDefer ops = true) (hno : ¬ LetsOut Q) (hS : S w.drew)
    (h : S w.drew → wpAnyH P .any ops Q S ops.size (Array.replicate ops.size false) a w.drew) : (Code.region id ops true).wpIn (Fence.wide.inRound l) n P Q a w :=
  wpIn_region_draw fun t => by
    simp only [Region.schedule, hm, Bool.true_or, if_true]
    exact wpOps_inRound (noDefer_spec hd) hno _ _ _ (wpAny_sound ops.size t _ a _ (wpAny_of_held _ _ _ _ (h hS)))
/-- What is held may be more from here on. -/
theorem wpAnyH_more {md : Region.Mode} {ops : Array Oper} {S S2 : World → Prop} (h12 : ∀ w, S2 w → S w) : ∀ {fuel : Nat} {listed : Array Bool} {a : Act} {w : World}, wpAnyH P md ops Q S2 fuel listed a w → wpAnyH P md ops Q S fuel listed a w
  | 0, _, _, _, h => h
  | _ + 1, _, _, _, h => ⟨h.1, fun i hi => wpOp_mono (fun _ _ hk => ⟨h12 _ hk.1, wpAnyH_more h12 hk.2⟩) (h.2 i hi)⟩
/-- One operation is taken first: written out by the list that is left. -/
theorem takeL {md : Region.Mode} {S : World → Prop} {ls rest : List Oper} (i : Nat) {oi : Oper} {v : Value} {fuel : Nat} {listed : Array Bool} {a : Act} {w : World} (hl : ls.drop i = oi :: rest)
    (hs : Region.noSelect ls.toArray = true) (hf : Region.free md ls.toArray listed i = true) (hr : (Region.ready md ls.toArray listed).contains i = true)
    (hQ : ∀ c a w, Q (.panic c) (a.put oi.dst v) w → Q (.panic c) a w) (hy : YieldsIf P ls.toArray S oi v a) (hS : S w)
    (h : wpAnyH P md ls.toArray Q S fuel (listed.setIfInBounds i true) (a.put oi.dst v) w) : wpAnyH P md ls.toArray Q S (fuel + 1) listed a w :=
  wpAnyH_take (by
    rw [List.getElem?_toArray]
    have h0 := congrArg (fun x : List Oper => x[0]?) hl
    simpa [List.getElem?_drop] using h0) hs hf hr hQ hy hS h
/-- One of those that may come up, written out by the list that is left. -/
theorem consL {md : Region.Mode} {S : World → Prop} {ls rest : List Oper} (i : Nat) {oi : Oper} {rs : List Nat} {fuel : Nat} {listed : Array Bool} {a : Act} {w : World} (hl : ls.drop i = oi :: rest)
    (h : ∀ K' : Act → World → Prop, Shut (∀ a w, S w → (S w → wpAnyH P md ls.toArray Q S fuel (listed.setIfInBounds i true) a w) → K' a w) → if Region.wanted oi (yielded ls.toArray a.tmps) = true then Oper.wp P oi a w K' Q else K' (a.put oi.dst undef) w)
    (hs : AllReadyH P md ls.toArray Q S fuel listed a w rs) : AllReadyH P md ls.toArray Q S fuel listed a w (i :: rs) :=
  AllReadyH.cons (by
    rw [List.getElem?_toArray]
    have h0 := congrArg (fun x : List Oper => x[0]?) hl
    simpa [List.getElem?_drop] using h0) h hs
end
end Go.Hp
