/- Counts of scalars add up, at all numbers. No condition. -/
import Derived.Test.YtoilaibpmepecaaXScalar
import Derived.Test.YtoilaibpmepecaaXx2
namespace Go.Proofs.Ytoilaibpmepecaa.PureScalarCounts
open Go Go.RowKit Go.Proofs.Ytoilaibpmepecaa.X Go.Proofs.Ytoilaibpmepecaa.XPure Go.Proofs.Ytoilaibpmepecaa.XScalar Go.Proofs.YtoilaibpmepecaaW.PrintWords Go.Proofs.YtoilaibpmepecaaW.PrintLast Go.Proofs.YtoilaibpmepecaaW.PrintMore
set_option linter.unusedVariables false
set_option linter.unusedSimpArgs false
set_option maxHeartbeats 1000000

theorem wakes_eq : caesuralaw01_wakes.f = some true := by
  unfold caesuralaw01_wakes.f
  simp only [next_eq, prev_eq, index_eq, is_eq, count_eq, Option.bind_some]
  decide

theorem count_bd (a b : Int) : 0 ≤ countS a b ∧ countS a b ≤ 1112064 := by unfold countS numS; split <;> split <;> omega
theorem ScalarCounts : caesuralaw01_ScalarCounts.Pure := by
  intro x y z hx hy hz
  refine ⟨1, ?_⟩
  unfold caesuralaw01_ScalarCounts.f
  simp only [is_eq, mx_eq, mn_eq, Option.bind_some]
  obtain ⟨a, ha⟩ : ∃ a, a = min (min x y) z := ⟨_, rfl⟩
  obtain ⟨b, hb⟩ : ∃ b, b = max (min x y) (min (max x y) z) := ⟨_, rfl⟩
  obtain ⟨c, hc⟩ : ∃ c, c = max (max x y) z := ⟨_, rfl⟩
  rw [← ha, ← hb, ← hc]
  have hab : a ≤ b := by omega
  have hbc : b ≤ c := by omega
  clear ha hb hc
  have J : ∀ t : Int, t = (if isS b = true then 1 else 0) → caesuralaw01_ScalarCounts.j0 1 a b c t = some true := by
    intro t ht
    unfold caesuralaw01_ScalarCounts.j0
    have h1 := count_bd a b
    have h2 := count_bd b c
    have ht' : 0 ≤ t ∧ t ≤ 1 := by rw [ht]; split <;> omega
    have e1 : wrap64 (wrap64 (countS a b + countS b c) - t) = countS a b + countS b c - t := by unfold wrap64; omega
    have e2 : countS a b + countS b c - t = countS a c := by
      rw [ht]; clear ht ht' h1 h2 e1
      by_cases hs : isS b = true
      · rw [if_pos hs]
        simp only [isS, decide_eq_true_eq] at hs
        unfold countS numS
        repeat' split
        all_goals omega
      · rw [if_neg hs]
        simp only [isS, decide_eq_true_eq] at hs
        unfold countS numS
        repeat' split
        all_goals omega
    have e3 : countS 0 1114111 = 1112064 := by decide
    have e4 : countS 55296 57343 = 0 := by decide
    simp only [count_eq, Option.bind_some, wakes_eq]
    simp only [e1, e2, e3, e4, if_true]
  by_cases hs : isS b = true
  · rw [if_pos hs]; exact J _ (by rw [if_pos hs])
  · rw [if_neg hs]; exact J _ (by rw [if_neg hs])
end Go.Proofs.Ytoilaibpmepecaa.PureScalarCounts
namespace Go.Proofs.Ytoilaibpmepecaa.Pure
theorem ScalarCounts : X.caesuralaw01_ScalarCounts.Pure := PureScalarCounts.ScalarCounts
end Go.Proofs.Ytoilaibpmepecaa.Pure
