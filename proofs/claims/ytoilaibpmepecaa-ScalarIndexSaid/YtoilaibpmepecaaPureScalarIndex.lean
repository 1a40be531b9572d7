/- A scalar's number is how many are below it, and so on from one to the next, at all numbers. No condition. -/
import Derived.Test.YtoilaibpmepecaaXScalar
import Derived.Test.YtoilaibpmepecaaXx3
namespace Go.Proofs.Ytoilaibpmepecaa.PureScalarIndex
open Go Go.RowKit Go.Proofs.Ytoilaibpmepecaa.X Go.Proofs.Ytoilaibpmepecaa.XPure Go.Proofs.Ytoilaibpmepecaa.XScalar Go.Proofs.YtoilaibpmepecaaW.PrintWords Go.Proofs.YtoilaibpmepecaaW.PrintLast Go.Proofs.YtoilaibpmepecaaW.PrintMore
set_option linter.unusedVariables false
set_option linter.unusedSimpArgs false
set_option maxHeartbeats 1000000

theorem wakes_eq : caesuralaw01_wakes.f = some true := by
  unfold caesuralaw01_wakes.f
  simp only [next_eq, prev_eq, index_eq, is_eq, count_eq, Option.bind_some]
  decide

theorem count_bd (a b : Int) : 0 ≤ countS a b ∧ countS a b ≤ 1112064 := by unfold countS numS; split <;> split <;> omega
theorem next_is (a : Int) (h : (nextS a).2 = true) : isS (nextS a).1 = true := by
  simp only [isS, decide_eq_true_eq]
  unfold nextS at *
  repeat' split
  all_goals first | omega | (exfalso; simp_all; done) | (simp only []; omega)
theorem next_count (a : Int) (hs : isS a = true) (hn : (nextS a).2 = true) : countS 0 ((nextS a).1 - 1) = countS 0 (a - 1) + 1 := by
  simp only [isS, decide_eq_true_eq] at hs
  unfold nextS at *
  unfold countS numS
  repeat' split at hn
  all_goals first | (simp at hn; done) | skip
  all_goals (repeat' split)
  all_goals omega
theorem next_none (a : Int) (hs : isS a = true) (hn : ¬ (nextS a).2 = true) : a = 1114111 := by
  simp only [isS, decide_eq_true_eq] at hs
  unfold nextS at *
  repeat' split at hn
  all_goals first | (simp at hn; done) | omega
theorem ScalarIndex : caesuralaw01_ScalarIndex.Pure := by
  intro v s hv hs
  have hsb : 0 ≤ s ∧ s ≤ 255 := by have := u8b hs; omega
  refine ⟨22, ?_⟩
  unfold caesuralaw01_ScalarIndex.f
  simp only [index_eq, is_eq, wakes_eq, Option.bind_some]
  have hi : (indexS v).2 = isS v := by unfold indexS; split <;> simp_all
  rw [hi]
  have hne : (isS v != isS v) = false := by simp
  rw [hne]
  simp only [Bool.false_eq_true, if_false]
  by_cases h : isS v = true
  · rw [if_pos h]
    have hv1 : (indexS v).1 = countS 0 (v - 1) := by unfold indexS; rw [if_pos h]
    rw [hv1]
    have L : ∀ (d k : Nat) (now i : Int), 0 ≤ i → i ≤ 20 → (20 - i = d) → d < k → isS now = true → countS 0 (now - 1) = countS 0 (v - 1) + i → caesuralaw01_ScalarIndex.l0 k v s (countS 0 (v - 1)) now i = some true := by
      intro d
      induction d with
      | zero =>
        intro k now i h0 h1 hd hk hnow hc
        obtain ⟨k, rfl⟩ : ∃ m, k = m + 1 := ⟨k - 1, by omega⟩
        simp only [caesuralaw01_ScalarIndex.l0]
        have hm : wrap64 s = s := by unfold wrap64; omega
        rw [hm, if_neg (by rw [Int.tmod_eq_emod_of_nonneg hsb.1]; omega)]
        simp only [count_eq, wakes_eq, Option.bind_some]
        simp only [isS, decide_eq_true_eq] at h
        by_cases hz : v = 0
        · subst hz; rfl
        · have hm : wrap64 (v - 1) = v - 1 := by unfold wrap64; omega
          rw [if_neg hz, if_pos (by omega), hm, if_pos rfl]
      | succ d ih =>
        intro k now i h0 h1 hd hk hnow hc
        obtain ⟨k, rfl⟩ : ∃ m, k = m + 1 := ⟨k - 1, by omega⟩
        simp only [caesuralaw01_ScalarIndex.l0]
        have hm : wrap64 s = s := by unfold wrap64; omega
        rw [hm]
        by_cases hlt : i < s.tmod 20
        · rw [if_pos hlt]
          simp only [next_eq, index_eq, wakes_eq, Option.bind_some]
          by_cases hn : (nextS now).2 = true
          · have hns := next_is now hn
            have e1 : indexS (nextS now).1 = (countS 0 ((nextS now).1 - 1), true) := by unfold indexS; rw [if_pos hns]
            have e2 := next_count now hnow hn
            have b1 := count_bd 0 (v - 1)
            have e3 : wrap64 (wrap64 (countS 0 (v - 1) + i) + 1) = countS 0 (v - 1) + i + 1 := by unfold wrap64; omega
            have e4 : wrap64 (i + 1) = i + 1 := by unfold wrap64; omega
            rw [if_pos hn, e1]
            simp only [if_true]
            rw [e3, e4, if_pos (by omega)]
            exact ih k _ (i + 1) (by omega) (by omega) (by omega) (by omega) hns (by omega)
          · rw [if_neg hn, if_pos (next_none now hnow hn)]
        · rw [if_neg hlt]
          simp only [count_eq, wakes_eq, Option.bind_some]
          simp only [isS, decide_eq_true_eq] at h
          by_cases hz : v = 0
          · subst hz; rfl
          · have hm : wrap64 (v - 1) = v - 1 := by unfold wrap64; omega
            rw [if_neg hz, if_pos (by omega), hm, if_pos rfl]
    exact L 20 22 v 0 (by omega) (by omega) (by omega) (by omega) h (by omega)
  · rw [if_neg h]
    have : (indexS v).1 = 0 := by unfold indexS; rw [if_neg h]
    rw [if_pos this]
end Go.Proofs.Ytoilaibpmepecaa.PureScalarIndex
namespace Go.Proofs.Ytoilaibpmepecaa.Pure
theorem ScalarIndex : X.caesuralaw01_ScalarIndex.Pure := PureScalarIndex.ScalarIndex
end Go.Proofs.Ytoilaibpmepecaa.Pure
