/- scalar.Is, Next, Prev, Count and Index of the program answer as the reference does, at all numbers. No condition. -/
import Derived.Test.YtoilaibpmepecaaXScalar
import Derived.Test.YtoilaibpmepecaaXx2
namespace Go.Proofs.Ytoilaibpmepecaa.PureScalarTells
open Go Go.RowKit Go.Proofs.Ytoilaibpmepecaa.X Go.Proofs.Ytoilaibpmepecaa.XPure Go.Proofs.Ytoilaibpmepecaa.XScalar Go.Proofs.YtoilaibpmepecaaW.PrintWords Go.Proofs.YtoilaibpmepecaaW.PrintLast Go.Proofs.YtoilaibpmepecaaW.PrintMore
set_option linter.unusedVariables false
set_option linter.unusedSimpArgs false
set_option maxHeartbeats 1000000

theorem wakes_eq : caesuralaw01_wakes.f = some true := by
  unfold caesuralaw01_wakes.f
  simp only [next_eq, prev_eq, index_eq, is_eq, count_eq, Option.bind_some]
  decide

theorem rnext_eq (a : Int) : caesuraref01_Next.f a = some (nextS a) := by
  unfold caesuraref01_Next.f nextS wrap64
  repeat' split
  all_goals first | rfl | (exfalso; omega) | (congr 2; omega)
theorem rprev_eq (a : Int) : caesuraref01_Prev.f a = some (prevS a) := by
  unfold caesuraref01_Prev.f prevS wrap64
  repeat' split
  all_goals first | rfl | (exfalso; omega) | (congr 2; omega)
theorem ris_eq (a : Int) : caesuraref01_Is.f a = some (isS a) := by
  unfold caesuraref01_Is.f isS
  repeat' split
  all_goals (congr 1; symm; first | (rw [decide_eq_false_iff_not]; omega) | (rw [decide_eq_true_iff]; omega) | (apply decide_eq_decide.mpr; omega))
def belowS (a : Int) : Int := if max 0 (min a 1114112) ≤ 55296 then max 0 (min a 1114112) else max (max 0 (min a 1114112)) 57344 - 2048
theorem rbelow_eq (a : Int) : caesuraref01_Below.f a = some (belowS a) := by
  unfold caesuraref01_Below.f belowS
  simp only [mx_eq, mn_eq]
  split <;> rfl
theorem below_bd (a : Int) : 0 ≤ belowS a ∧ belowS a ≤ 1112064 := by unfold belowS; split <;> omega
theorem below_index (a : Int) (h : isS a = true) : belowS a = countS 0 (a - 1) := by
  simp only [isS, decide_eq_true_eq] at h
  unfold belowS countS numS
  split <;> split <;> split <;> omega
theorem rcount_eq (k : Nat) (a b : Int) : caesuraref01_Count.f (k + 1) a b = some (countS a b) := by
  unfold caesuraref01_Count.f
  have J : ∀ x : Bool, (x = true → countS a b = 0) → (x = false → a ≤ b ∧ 0 ≤ b ∧ a ≤ 1114111) → caesuraref01_Count.j0 (k + 1) a b x = some (countS a b) := by
    intro x h1 h0
    unfold caesuraref01_Count.j0
    cases x
    · have h := h0 rfl
      simp only [rbelow_eq, mn_eq, Option.bind_some, Bool.false_eq_true, if_false]
      congr 1
      have : wrap64 (min b 1114111 + 1) = min b 1114111 + 1 := by unfold wrap64; omega
      rw [this]
      have b1 := below_bd (min b 1114111 + 1)
      have b2 := below_bd a
      have : wrap64 (belowS (min b 1114111 + 1) - belowS a) = belowS (min b 1114111 + 1) - belowS a := by unfold wrap64; omega
      rw [this]
      unfold belowS countS numS
      split <;> split <;> split <;> split <;> omega
    · simp only [if_true]; rw [h1 rfl]
  split
  · exact J _ (fun _ => by unfold countS numS; split <;> split <;> omega) (fun h => by simp at h)
  · split
    · exact J _ (fun _ => by unfold countS numS; split <;> split <;> omega) (fun h => by simp at h)
    · exact J _ (fun h => by rw [decide_eq_true_eq] at h; unfold countS numS; split <;> split <;> omega) (fun h => by rw [decide_eq_false_iff_not] at h; omega)
theorem ScalarTells : caesuralaw01_ScalarTells.Pure := by
  intro v w hv hw
  refine ⟨2, ?_⟩
  unfold caesuralaw01_ScalarTells.f
  simp only [next_eq, prev_eq, index_eq, rnext_eq, rprev_eq, ris_eq, rbelow_eq, Option.bind_some]
  have J : ∀ t : Int, t = (indexS v).1 → caesuralaw01_ScalarTells.j0 2 v w (nextS v).1 (nextS v).2 (prevS v).1 (prevS v).2 (indexS v).1 (indexS v).2 t (nextS v).1 (nextS v).2 (prevS v).1 (prevS v).2 = some true := by
    intro t ht
    unfold caesuralaw01_ScalarTells.j0
    have hi : (indexS v).2 = isS v := by unfold indexS; split <;> simp_all
    simp only [is_eq, ris_eq, count_eq, rcount_eq, wakes_eq, Option.bind_some, hi, beq_self_eq_true, if_true, ht]
  split
  · rename_i h; exact J _ (by rw [below_index v h]; unfold indexS; rw [if_pos h])
  · rename_i h; exact J _ (by unfold indexS; rw [if_neg h])
end Go.Proofs.Ytoilaibpmepecaa.PureScalarTells
namespace Go.Proofs.Ytoilaibpmepecaa.Pure
theorem ScalarTells : X.caesuralaw01_ScalarTells.Pure := PureScalarTells.ScalarTells
end Go.Proofs.Ytoilaibpmepecaa.Pure
