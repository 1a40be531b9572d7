/- Next and Prev of the greater of two numbers are no less than those of the other, at all numbers. No condition. -/
import Derived.Test.YtoilaibpmepecaaXScalar
import Derived.Test.YtoilaibpmepecaaXx3
namespace Go.Proofs.Ytoilaibpmepecaa.PureScalarOrder
open Go Go.RowKit Go.Proofs.Ytoilaibpmepecaa.X Go.Proofs.Ytoilaibpmepecaa.XPure Go.Proofs.Ytoilaibpmepecaa.XScalar Go.Proofs.YtoilaibpmepecaaW.PrintWords Go.Proofs.YtoilaibpmepecaaW.PrintLast Go.Proofs.YtoilaibpmepecaaW.PrintMore
set_option linter.unusedVariables false
set_option linter.unusedSimpArgs false
set_option maxHeartbeats 1000000

theorem wakes_eq : caesuralaw01_wakes.f = some true := by
  unfold caesuralaw01_wakes.f
  simp only [next_eq, prev_eq, index_eq, is_eq, count_eq, Option.bind_some]
  decide

theorem order_next (a b : Int) (h : a ≤ b) : ((nextS b).2 = true → (nextS a).2 = true ∧ (nextS a).1 ≤ (nextS b).1) ∧ ((prevS a).2 = true → (prevS b).2 = true ∧ (prevS a).1 ≤ (prevS b).1) ∧ (nextS a).2 = decide (a < 1114111) ∧ (prevS b).2 = decide (b > 0) := by
  refine ⟨?_, ?_, ?_, ?_⟩
  · unfold nextS
    intro h2
    repeat' split at h2
    all_goals first | (simp at h2; done) | skip
    all_goals (repeat' split)
    all_goals first | (exfalso; omega) | (refine ⟨rfl, ?_⟩; simp only []; omega)
  · unfold prevS
    intro h2
    repeat' split at h2
    all_goals first | (simp at h2; done) | skip
    all_goals (repeat' split)
    all_goals first | (exfalso; omega) | (refine ⟨rfl, ?_⟩; simp only []; omega)
  · unfold nextS; symm
    repeat' split
    all_goals first | (exact decide_eq_true (by omega)) | (exact decide_eq_false (by omega))
  · unfold prevS; symm
    repeat' split
    all_goals first | (exact decide_eq_true (by omega)) | (exact decide_eq_false (by omega))
theorem ScalarOrder : caesuralaw01_ScalarOrder.Pure := by
  intro v w hv hw
  refine ⟨1, ?_⟩
  unfold caesuralaw01_ScalarOrder.f
  simp only [next_eq, prev_eq, mx_eq, mn_eq, Option.bind_some]
  obtain ⟨a, ha⟩ : ∃ a, a = min v w := ⟨_, rfl⟩
  obtain ⟨b, hb⟩ : ∃ b, b = max v w := ⟨_, rfl⟩
  rw [← ha, ← hb]
  have hab : a ≤ b := by omega
  clear ha hb
  obtain ⟨o1, o2, o3, o4⟩ := order_next a b hab
  have J : ∀ x : Bool, x = false → caesuralaw01_ScalarOrder.j0 1 a b (nextS a).2 (prevS b).2 x = some true := by
    intro x hx
    subst hx
    unfold caesuralaw01_ScalarOrder.j0
    have e1 : prevS 0 = (0, false) := by decide
    have e2 : nextS 1114111 = (0, false) := by decide
    simp only [next_eq, prev_eq, wakes_eq, Option.bind_some, e1, e2, o3, o4, beq_self_eq_true, if_true, Bool.false_eq_true, if_false]
  repeat' split
  all_goals first
    | exact J _ rfl
    | (refine J _ (decide_eq_false ?_); have := o2 (by assumption); omega)
    | (exfalso; have := o1 (by assumption); simp_all; done)
    | (exfalso; have := o2 (by assumption); simp_all; done)
    | (exfalso; have := o1 (by assumption); omega)
end Go.Proofs.Ytoilaibpmepecaa.PureScalarOrder
namespace Go.Proofs.Ytoilaibpmepecaa.Pure
theorem ScalarOrder : X.caesuralaw01_ScalarOrder.Pure := PureScalarOrder.ScalarOrder
end Go.Proofs.Ytoilaibpmepecaa.Pure
