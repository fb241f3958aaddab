/- A copy into the head of a longer row. Plain. -/
import Derived.Test.YtkpgdonpmfebaaaAppS
namespace Go.Hp
variable {P : Program} (w : World)
theorem wpList_copy_head {ops : Array Oper} {rest : List Oper} {o : Oper} {a : Act} {Q : Exit → Act → World → Prop} (hgd : o.guard = none) (d s : Operand) (dT sT : TypeId)
    (ho : o.op = .call { callee := .builtin .copy, args := #[d, s], argTypes := #[dT, sT] }) (e : TypeId) (hu : P.underlying dT = some (.slice e)) (hsz : (P.info? e).map (·.size) = some 1)
    (dv : Value) (base n k : Nat) (zs : List Value) (hk : 0 < k) (hd : a.eval d = dv) (hown : w.ownsRow base e 1 dv (n + k) zs) (sv : Value) (cs : List Value) (hs : a.eval s = sv) (hsrc : Src w sv n 1 cs) (h1 : ∀ u ∈ cs, u.oneCell' = true)
    (h : ∀ w', w'.ownsRow base e 1 dv (n + k) (cs ++ zs.drop n) → w.grownBy w' dv.ownBlock → wpList P ops Q rest (a.put o.dst (goInt n)) w') : wpList P ops Q (o :: rest) a w := by
  have hcl : cs.length = n := by simpa using hsrc.1
  have hzl : zs.length = n + k := by simpa using hown.1
  rcases hown.2 with ⟨_, h00⟩ | ⟨g, cap, cur, hv, hb, hg, hnc, hcm, hcs, htake⟩
  · omega
  have hcs' : cur.size = cap := by simpa using hcs
  rcases Nat.eq_zero_or_pos n with h0 | h0
  · subst h0
    obtain ⟨sp, sc, hsv⟩ := hsrc.len
    refine wpList_copy_nothing hgd d s dT sT ho e hu hsz (some ⟨g, 0, none⟩) sp (0 + k) cap 0 sc (hd.trans hv) (hs.trans hsv) (by simp) ?_
    have hcs0 : cs = [] := List.eq_nil_of_length_eq_zero hcl
    subst hcs0
    exact h w (by simpa using hown) (World.grownBy.refl w _)
  · obtain ⟨_, ⟨c, _, h00⟩ | ⟨ad, c, hsv, hc⟩⟩ := hsrc
    · omega
    refine wpList_copy_own hgd d s dT sT ho e hu hsz g 0 (n + k) cap ad n c (hd.trans hv) (hs.trans hsv) cur e hg cs (by rw [hcl]; exact (Nat.min_eq_left (by omega)).symm) hc (by omega) h1 ?_
    rw [hcl]
    refine h _ ⟨by simp [hcl, hzl], Or.inr ⟨g, cap, _, hv, hb, setRow_heap w g cur _ e _ hg, hnc, hcm, ?_, ?_⟩⟩ ⟨rfl, rfl, rfl, by simp [World.setRow], fun k _ hk => setRow_other w g k _ (fun e => hk (by simp [hv, Value.ownBlock, e]))⟩
    · simp only [List.size_toArray, List.length_append, List.length_take, List.length_drop, Array.length_toList, hcl]
      omega
    · simp only [List.take_zero, List.nil_append, Nat.mul_one, Nat.zero_add] at htake ⊢
      rw [← htake, List.take_append, hcl, List.take_of_length_le (by omega), List.drop_take]
end Go.Hp
