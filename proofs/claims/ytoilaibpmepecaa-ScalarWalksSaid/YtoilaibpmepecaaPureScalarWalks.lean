/- From a scalar to its next one and back it is the same, and its number is one more, at all numbers. No condition. -/
import Derived.Test.YtoilaibpmepecaaXScalar
import Derived.Test.YtoilaibpmepecaaXx2
namespace Go.Proofs.Ytoilaibpmepecaa.PureScalarWalks
open Go Go.RowKit Go.Proofs.Ytoilaibpmepecaa.X Go.Proofs.Ytoilaibpmepecaa.XPure Go.Proofs.Ytoilaibpmepecaa.XScalar Go.Proofs.YtoilaibpmepecaaW.PrintWords Go.Proofs.YtoilaibpmepecaaW.PrintLast Go.Proofs.YtoilaibpmepecaaW.PrintMore
set_option linter.unusedVariables false
set_option linter.unusedSimpArgs false
set_option maxHeartbeats 1000000

theorem wakes_eq : caesuralaw01_wakes.f = some true := by
  unfold caesuralaw01_wakes.f
  simp only [next_eq, prev_eq, index_eq, is_eq, count_eq, Option.bind_some]
  decide

theorem count_two (a : Int) (h : isS a = true) (h2 : (nextS a).2 = true) : countS a (nextS a).1 = 2 := by
  simp only [isS, decide_eq_true_eq] at h
  unfold nextS at *
  unfold countS numS
  repeat' split at h2
  all_goals first | (simp at h2; done) | skip
  all_goals (repeat' split)
  all_goals omega
theorem ScalarWalks : caesuralaw01_ScalarWalks.Pure := by
  intro v hv
  refine ⟨1, ?_⟩
  unfold caesuralaw01_ScalarWalks.f
  simp only [next_eq, prev_eq, is_eq, wakes_eq, Option.bind_some]
  have J : ∀ x : Bool, (nextS v).2 = true → x = decide ((nextS v).1 ≤ v) → caesuralaw01_ScalarWalks.j0 1 v (nextS v).1 (prevS (nextS v).1).1 (prevS (nextS v).1).2 x = some true := by
    intro x hn hx
    have hlt : v < (nextS v).1 := by
      unfold nextS at *
      repeat' split
      all_goals first | omega | (exfalso; simp_all; done) | (simp only []; omega)
    have hx' : x = false := by rw [hx]; exact decide_eq_false (by omega)
    have c2 := fun h => count_two v h hn
    unfold caesuralaw01_ScalarWalks.j0
    simp only [is_eq, index_eq, count_eq, wakes_eq, Option.bind_some, hx', Bool.false_eq_true, if_false]
    by_cases hs : isS v = true
    · have c2' := c2 hs
      rw [if_pos hs]
      have hsn : isS (nextS v).1 = true := by
        simp only [isS, decide_eq_true_eq] at hs ⊢
        unfold nextS at *
        repeat' split
        all_goals first | omega | (exfalso; simp_all; done) | (simp only []; omega)
      have hp : prevS (nextS v).1 = (v, true) := by
        simp only [isS, decide_eq_true_eq] at hs
        unfold nextS at *
        unfold prevS
        repeat' split
        all_goals first | omega | (exfalso; simp_all; done) | (simp only [Prod.mk.injEq, and_true] at *; omega) | (exfalso; simp only [] at *; omega)
      have e1 : indexS v = (countS 0 (v - 1), true) := by unfold indexS; rw [if_pos hs]
      have e2 : indexS (nextS v).1 = (countS 0 ((nextS v).1 - 1), true) := by unfold indexS; rw [if_pos hsn]
      have hb : 0 ≤ countS 0 (v - 1) ∧ countS 0 (v - 1) ≤ 1112064 := by unfold countS numS; split <;> split <;> omega
      have e3 : wrap64 (countS 0 (v - 1) + 1) = countS 0 (v - 1) + 1 := by unfold wrap64; omega
      have e4 : countS 0 ((nextS v).1 - 1) = countS 0 (v - 1) + 1 := by
        simp only [isS, decide_eq_true_eq] at hs
        clear hp e1 e2 e3 hb c2 c2' hx hx' hlt hsn
        unfold nextS at *
        unfold countS numS
        repeat' split at hn
        all_goals first | (simp at hn; done) | skip
        all_goals (repeat' split)
        all_goals omega
      have e5 : countS 0 v = countS 0 (v - 1) + 1 := by
        simp only [isS, decide_eq_true_eq] at hs
        clear hp e1 e2 e3 e4 hb c2 c2' hx hx' hlt hsn
        unfold countS numS
        repeat' split
        all_goals omega
      simp only [hp, e1, e2, e3, e4, e5, c2', if_true]
    · rw [if_neg hs]
      by_cases hp : (prevS (nextS v).1).2 = true
      · rw [if_pos hp]
        by_cases h0 : v < 0
        · rw [if_pos h0]; split <;> rfl
        · rw [if_pos]
          simp only [isS, decide_eq_true_eq] at hs
          unfold nextS at *
          unfold prevS at *
          repeat' split
          all_goals first | omega | (exfalso; simp_all; done) | (simp only [] at *; omega)
      · rw [if_neg hp]
  by_cases h : (nextS v).2 = true
  · rw [if_pos h]
    by_cases hs : isS (nextS v).1 = true
    · rw [if_pos hs]; exact J _ h rfl
    · exfalso
      apply hs
      simp only [isS, decide_eq_true_eq]
      unfold nextS at *
      repeat' split
      all_goals first | omega | (exfalso; simp_all; done) | (simp only []; omega)
  · rw [if_neg h]
    have : (nextS v).1 = 0 ∧ v ≥ 1114111 := by
      unfold nextS at *
      repeat' split
      all_goals first | (exfalso; simp_all; done) | (exact ⟨rfl, by omega⟩)
    rw [if_pos this.1, if_pos this.2]
end Go.Proofs.Ytoilaibpmepecaa.PureScalarWalks
namespace Go.Proofs.Ytoilaibpmepecaa.Pure
theorem ScalarWalks : X.caesuralaw01_ScalarWalks.Pure := PureScalarWalks.ScalarWalks
end Go.Proofs.Ytoilaibpmepecaa.Pure
