/- alike: a log is the document's. -/
import Derived.Test.YtpaaghbmlenlfaaOlSl
import Derived.Test.YtpaaghbmlenlfaaOlSi
namespace Go.Proofs.Ytpaaghbmlenlfaa.Ol
open Go.Hp.M7
open Go.RowKit Go.Hp
attribute [local go_sem] min2_lean min_two max2_lean max_two
set_option linter.unusedSimpArgs false
set_option linter.unusedVariables false
set_option maxRecDepth 100000
set_option maxHeartbeats 2000000 in
theorem alike_any (g pb gr m : Nat) (v : Value) (A : Ab) (w : World) (hp : (pO g pb m A).holds w) (hq : (qO gr m v A).holds w) : Calls Try.prog 40 #[.pointer (some ⟨g, 0, none⟩), .pointer (some ⟨gr, 0, none⟩)] w fun e w' => e = .returned (.bool true) ∧ Chg (fun _ => False) w w' := by
  have hok := pO_ok hp
  have l2 : A.2.length ≤ 64 := by have := hok.len; have := hok.m64; omega
  have HP := Lib.hid hp
  have HQ := Lib.hid hq
  obtain ⟨Av, cv, rfl⟩ := rO_slice hq
  have c1 := (rO_cells hq).2.1
  have HG := Lib.hid (gath_any g pb m A (-1) w hp)
  have hga : gaL A (-1) = A.2 := rfl
  rw [hga] at HG
  obtain ⟨n, hn⟩ : ∃ n, A.2.length = n := ⟨_, rfl⟩
  have HN := Lib.hid hn
  have HPB := Lib.hid (fun W h => pBase g pb m A W h)
  have HPO := Lib.hid (fun W h => pOp g pb m A W h)
  have HPR := Lib.hid (fun W h => pRoom g pb m A W h)
  have HQO := Lib.hid (fun W h => qOp gr m (.slice Av A.2.length cv) A W h hok)
  have HQR := Lib.hid (fun W h => qRoom gr m (.slice Av A.2.length cv) A W h hok)
  have hne : (A.1 == A.1) = true := by simp
  rw [hn] at l2 HG HQ HPO HPR HQO HQR
  clear hp hq hga hn
  go_enter Try.func40, Try.ntmps40
  go_wp2_with (first
    | (go_at_call 55; (with_reducible refine HG.out.mono ?_); rintro r w1 ⟨V, n1, rfl, rfl, ht1⟩; obtain ⟨Aw, cw, rfl⟩ := row_slice ht1.now; have HC := Lib.hid (ht1.chg.mono (T := fun _ => False) (fun _ _ h => h.elim)); have HR := Lib.hid (EnS.of_row (c := cw) (l := A.2) (by rw [HN.out]; exact ht1.now)); clear ht1))
  obtain ⟨-, d1, d2⟩ := rO_cells (Own.chg HQ.out HC.out (fun _ _ h => h))
  have hne2 : (A.1 + (n1 : Int) == A.1 + (n1 : Int)) = true := by simp
  have hne3 : ((m : Int) - (n1 : Int) == (m : Int) - (n1 : Int)) = true := by simp
  have HQ1 := Lib.hid (Own.chg HQ.out HC.out (fun _ _ h => h))
  have HR2 := Lib.hid (EnS.of_row (c := cv) (l := A.2) (by have h := HQ1.out.2.1; rw [HN.out] at h ⊢; exact h))
  go_region_held3 (fun w' => w'.cell? ⟨gr, 1, none⟩ = some (.int .i64 A.1) ∧ w'.cell? ⟨gr, 2, none⟩ = some (.slice Av n1 cv)) (go_keep)
    (first
      | (go_at_call 53; (with_reducible refine (same_any Aw Av n1 cw cv A.2 _ (by exact HR.out.chg ((Chg.refl (fun _ => False) w1).drew) (fun _ _ _ h => h)) (by exact HR2.out.chg ((Chg.refl (fun _ => False) w1).drew) (fun _ _ _ h => h)) HN.out (by omega)).mono ?_); rintro r w2 ⟨rfl, hc⟩; have HC := Lib.hid (HC.out.drew.trans hc); clear hc; obtain ⟨-, d1, d2⟩ := rO_cells (Own.chg HQ.out HC.out (fun _ _ h => h)))
      | (go_at_call 24; (with_reducible refine (HPB.out _ (by exact Own.chg HP.out HC.out (fun _ _ h => h))).mono ?_); rintro r w2' ⟨rfl, rfl⟩)
      | (go_at_call 25; (with_reducible refine (HPO.out _ (by exact Own.chg HP.out HC.out (fun _ _ h => h))).mono ?_); rintro r w2 ⟨rfl, hc⟩; have HC := Lib.hid (HC.out.trans hc); clear hc; obtain ⟨-, d1, d2⟩ := rO_cells (Own.chg HQ.out HC.out (fun _ _ h => h)))
      | (go_at_call 38; (with_reducible refine (HQO.out _ (by exact Own.chg HQ.out HC.out (fun _ _ h => h))).mono ?_); rintro r w2 ⟨rfl, hc⟩; have HC := Lib.hid (HC.out.trans hc); clear hc; obtain ⟨-, d1, d2⟩ := rO_cells (Own.chg HQ.out HC.out (fun _ _ h => h)))
      | (go_at_call 26; (with_reducible refine (HPR.out _ (by exact Own.chg HP.out HC.out (fun _ _ h => h))).mono ?_); rintro r w2 ⟨rfl, hc⟩; have HC := Lib.hid (HC.out.trans hc); clear hc; obtain ⟨-, d1, d2⟩ := rO_cells (Own.chg HQ.out HC.out (fun _ _ h => h)))
      | (go_at_call 39; (with_reducible refine (HQR.out _ (by exact Own.chg HQ.out HC.out (fun _ _ h => h))).mono ?_); rintro r w2 ⟨rfl, hc⟩; have HC := Lib.hid (HC.out.trans hc); clear hc; obtain ⟨-, d1, d2⟩ := rO_cells (Own.chg HQ.out HC.out (fun _ _ h => h))))
  all_goals
    go_wp2_with fail
    exact bodyPost_ret (v := .bool true) (by simp [results, Try.results40, go_sem]) rfl ⟨rfl, HC.out⟩
end Go.Proofs.Ytpaaghbmlenlfaa.Ol
