/- The small look of package caesuralaw05 tells true. -/
import Derived.Test.YtoilaibpmepecaaXKeep
import Derived.Test.YtoilaibpmepecaaXx5
namespace Go.Proofs.Ytoilaibpmepecaa.XWakes05
open Go Go.RowKit Go.Proofs.Ytoilaibpmepecaa.X Go.Proofs.Ytoilaibpmepecaa.XPure Go.Proofs.Ytoilaibpmepecaa.XPack Go.Proofs.Ytoilaibpmepecaa.XKeep Go.Proofs.YtoilaibpmepecaaW.PrintWords Go.Proofs.YtoilaibpmepecaaW.PrintLast Go.Proofs.YtoilaibpmepecaaW.PrintMore
set_option linter.unusedVariables false
set_option linter.unusedSimpArgs false
set_option maxHeartbeats 1000000
theorem is_bits9 : IsBits [true, false, false, false, false, false, false, false, true] [1, 1] := by
  refine ⟨rfl, by decide, fun j => ?_⟩
  by_cases h : j < 16
  · have : ∀ j, j < 16 → bitAt [1, 1] j = [true, false, false, false, false, false, false, false, true].getD j false := by decide
    exact this j h
  · rw [bitAt_out _ _ (by simp; omega)]
    simp only [List.getD]
    rw [List.getElem?_eq_none (by simp; omega)]
    rfl
theorem wakes : Ev (fun k => caesuralaw05_wakes.f k) true := by
  have b9 : ∀ x ∈ ([9, 1, 2] : List Int), 0 ≤ x ∧ x < 256 := by decide
  have b11 : ∀ x ∈ ([1, 1] : List Int), 0 ≤ x ∧ x < 256 := by decide
  have b2 : ∀ x ∈ ([2] : List Int), 0 ≤ x ∧ x < 256 := by decide
  have e1 : putS [9] 258 2 = [9, 1, 2] := by decide
  have e2 : getS [9, 1, 2] 1 2 = (258, true) := by decide
  have e3 : getS [9, 1, 2] 2 2 = (0, false) := by decide
  have e4 : unbitsS [1, 1] 9 = ([true, false, false, false, false, false, false, false, true], true) := by decide
  have e5 : unbitsS [2] 1 = ([], false) := by decide
  obtain ⟨r, hr, hq⟩ := bits_ev [true, false, false, false, false, false, false, false, true] (by decide)
  obtain rfl : r = [1, 1] := bits_one hq is_bits9
  have g1 := get_ev [9, 1, 2] 1 2 b9 (by decide) (by omega)
  have g2 := get_ev [9, 1, 2] 2 2 b9 (by decide) (by omega)
  have u1 := unbits_ev [1, 1] 9 b11 (by decide)
  have u2 := unbits_ev [2] 1 b2 (by decide)
  rw [e2] at g1
  rw [e3] at g2
  rw [e4] at u1
  rw [e5] at u2
  unfold caesuralaw05_wakes.f
  refine Ev.bindc (put_eq _ _ _ (by decide)) ?_
  rw [e1]
  refine Ev.bind g1 (Ev.bind g2 (Ev.bind hr (Ev.bind u1 (Ev.bind u2 ?_))))
  refine Ev.bindc (keep_bytes _ _ b9 b9) ?_
  refine Ev.pos (by decide) (Ev.pos rfl (Ev.pos rfl (Ev.neg (by decide) ?_)))
  refine Ev.bindc (keep_bytes _ _ b11 b11) ?_
  refine Ev.pos (by decide) (Ev.pos rfl (Ev.pos (by decide) (Ev.pos (by decide) (Ev.pos (by decide) (Ev.pos (by decide) (Ev.neg (by decide) (Ev.neg (by decide) ?_)))))))
  refine Ev.bind (sum_ev [] (by decide) (by decide)) (Ev.pos (by decide) ?_)
  refine Ev.bindc (put_eq [] 1 (-3) (by decide)) ?_
  exact Ev.const (by decide)
end Go.Proofs.Ytoilaibpmepecaa.XWakes05
