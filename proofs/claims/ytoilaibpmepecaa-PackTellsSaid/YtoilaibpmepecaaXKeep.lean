/- What the small helpers of package caesurakeep tell. -/
import Derived.Test.YtoilaibpmepecaaXPack
import Derived.Test.YtoilaibpmepecaaXx4
import Derived.Test.YtoilaibpmepecaaXx6
namespace Go.Proofs.Ytoilaibpmepecaa.XKeep
open Go Go.RowKit Go.Proofs.Ytoilaibpmepecaa.X Go.Proofs.Ytoilaibpmepecaa.XPure Go.Proofs.Ytoilaibpmepecaa.XPack Go.Proofs.YtoilaibpmepecaaW.PrintWords Go.Proofs.YtoilaibpmepecaaW.PrintLast Go.Proofs.YtoilaibpmepecaaW.PrintMore
set_option linter.unusedVariables false
set_option linter.unusedSimpArgs false
theorem keep_bytes (a b : List Int) (ha : ∀ x ∈ a, 0 ≤ x ∧ x < 256) (hb : ∀ x ∈ b, 0 ≤ x ∧ x < 256) : caesurakeep_Bytes.f a b = some (decide (a = b)) := by
  unfold caesurakeep_Bytes.f
  congr 1
  by_cases h : a = b
  · rw [decide_eq_true h, h]; simp
  · rw [decide_eq_false h]
    rw [beq_eq_false_iff_ne]
    exact fun he => h ((strOf_inj ha hb).1 he)
theorem keep_bools_loop (a b : List Bool) (hl : a.length ≤ 1000000000000) (hab : a.length = b.length) : ∀ (d i : Nat), i + d = a.length →
    Ev (fun k => caesurakeep_Bools.l0 k a b (i : Int)) (decide (a.drop i = b.drop i)) := by
  intro d
  induction d with
  | zero =>
    intro i hi
    refine Ev.step (f := fun _ => some true) (fun k => ?_) ?_
    · simp only [caesurakeep_Bools.l0]; rw [if_neg (by omega)]
    · have : decide (a.drop i = b.drop i) = true := by
        rw [List.drop_of_length_le (by omega), List.drop_of_length_le (by omega)]; simp
      rw [this]; exact Ev.now _
  | succ d ih =>
    intro i hi
    have ha : i < a.length := by omega
    have hb : i < b.length := by omega
    have e1 : rdOf false a (i : Int) = a[i] := by rw [rdB_nat, getD_lt ha]
    have e2 : rdOf false b (i : Int) = b[i] := by rw [rdB_nat, getD_lt hb]
    by_cases he : a[i] = b[i]
    · have : decide (a.drop i = b.drop i) = decide (a.drop (i + 1) = b.drop (i + 1)) := by
        apply decide_eq_decide.2
        rw [drop_cons ha, drop_cons hb, he]
        simp only [List.cons.injEq, true_and]
      rw [this]
      refine Ev.step (fun k => ?_) (ih (i + 1) (by omega))
      simp only [caesurakeep_Bools.l0]
      rw [if_pos (by omega), if_pos (by omega), if_pos (by omega), e1, e2, if_neg (by rw [he]; simp), succ64 i (by omega)]
    · have : decide (a.drop i = b.drop i) = false := by
        apply decide_eq_false
        rw [drop_cons ha, drop_cons hb]
        intro h
        exact he (List.cons.inj h).1
      rw [this]
      refine Ev.step (f := fun _ => some false) (fun k => ?_) (Ev.now _)
      simp only [caesurakeep_Bools.l0]
      rw [if_pos (by omega), if_pos (by omega), if_pos (by omega), e1, e2, if_pos (by simpa using he)]
theorem keep_bools (a b : List Bool) (hl : a.length ≤ 1000000000000) : Ev (fun k => caesurakeep_Bools.f k a b) (decide (a = b)) := by
  unfold caesurakeep_Bools.f
  by_cases h : a.length = b.length
  · refine Ev.pos (by omega) ?_
    have := keep_bools_loop a b hl h a.length 0 (by omega)
    rw [List.drop_zero, List.drop_zero] at this
    exact this
  · refine Ev.neg (by omega) ?_
    have : decide (a = b) = false := decide_eq_false (fun he => h (by rw [he]))
    rw [this]
    exact Ev.now _
end Go.Proofs.Ytoilaibpmepecaa.XKeep
