/- What package scalar's functions tell, as plain functions. -/
import Derived.Test.YtoilaibpmepecaaXPure
import Derived.Test.YtoilaibpmepecaaXx1
import Derived.Test.YtoilaibpmepecaaXx1
import Derived.Test.YtoilaibpmepecaaXx1
import Derived.Test.YtoilaibpmepecaaXx1
namespace Go.Proofs.Ytoilaibpmepecaa.XScalar
open Go Go.RowKit Go.Proofs.Ytoilaibpmepecaa.X Go.Proofs.Ytoilaibpmepecaa.XPure Go.Proofs.YtoilaibpmepecaaW.PrintWords Go.Proofs.YtoilaibpmepecaaW.PrintLast Go.Proofs.YtoilaibpmepecaaW.PrintMore
set_option linter.unusedVariables false
set_option linter.unusedSimpArgs false
set_option maxHeartbeats 1000000

def nextS (a : Int) : Int × Bool := if a < 0 then (0, true) else if a ≥ 1114111 then (0, false) else if 55295 ≤ a ∧ a < 57344 then (57344, true) else (a + 1, true)
def prevS (a : Int) : Int × Bool := if a ≤ 0 then (0, false) else if a > 1114111 then (1114111, true) else if 55295 < a ∧ a ≤ 57344 then (55295, true) else (a - 1, true)
def isS (a : Int) : Bool := decide ((0 ≤ a ∧ a < 55296) ∨ (57344 ≤ a ∧ a ≤ 1114111))
def numS (a b : Int) : Int := if b < a then 0 else b - a + 1
def countS (a b : Int) : Int := numS (max a 0) (min (min b 1114111) 55295) + numS (max (max a 0) 57344) (min b 1114111)
def indexS (a : Int) : Int × Bool := if isS a = true then (countS 0 (a - 1), true) else (0, false)

theorem next_eq (a : Int) : scalar_Next.f a = some (nextS a) := by
  unfold scalar_Next.f nextS wrap64
  repeat' split
  all_goals first | rfl | (exfalso; omega) | (congr 2; omega)
theorem prev_eq (a : Int) : scalar_Prev.f a = some (prevS a) := by
  unfold scalar_Prev.f prevS wrap64
  repeat' split
  all_goals first | rfl | (exfalso; omega) | (congr 2; omega)
theorem is_eq (a : Int) : scalar_Is.f a = some (isS a) := by
  unfold scalar_Is.f scalar_sign.f isS wrap32
  repeat' split
  all_goals (simp only [Option.bind_some]; congr 1; symm; first | (rw [decide_eq_false_iff_not]; omega) | (rw [decide_eq_true_iff]; omega) | (apply decide_eq_decide.mpr; omega))
theorem num_eq (a b : Int) (h0 : 0 ≤ a) (h1 : b ≤ 1114111) : scalar_numbers.f a b = some (numS a b) := by
  unfold scalar_numbers.f numS wrap64
  split
  · rfl
  · congr 1; omega
theorem count_eq (a b : Int) : scalar_Count.f a b = some (countS a b) := by
  unfold scalar_Count.f countS
  simp only [mx_eq, mn_eq]
  rw [num_eq _ _ (by omega) (by omega), num_eq _ _ (by omega) (by omega)]
  simp only [Option.bind_some]
  congr 1
  unfold wrap64 numS
  split <;> split <;> omega
theorem index_eq (a : Int) : scalar_Index.f a = some (indexS a) := by
  unfold scalar_Index.f indexS
  rw [is_eq]
  simp only [Option.bind_some]
  split
  · rename_i h
    rw [count_eq]
    simp only [isS, decide_eq_true_eq] at h
    have : wrap64 (a - 1) = a - 1 := by unfold wrap64; omega
    rw [this]; rfl
  · rfl
end Go.Proofs.Ytoilaibpmepecaa.XScalar
