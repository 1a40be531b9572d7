/- Law TableLengths, in plain Lean. -/
import Derived.Test.YtpcbhghgommijaaXWakes06
import Derived.Test.YtpcbhghgommijaaXx20
namespace Go.Proofs.Ytpcbhghgommijaa.PureTableLengths
open Go Go.RowKit Go.Proofs.Ytpcbhghgommijaa.X Go.Proofs.Ytpcbhghgommijaa.XPure Go.Proofs.Ytpcbhghgommijaa.XPack Go.Proofs.Ytpcbhghgommijaa.XTable Go.Proofs.Ytpcbhghgommijaa.XWakes06 Go.Proofs.YtpcbhghgommijaaW.PrintWords Go.Proofs.YtpcbhghgommijaaW.PrintLast Go.Proofs.YtpcbhghgommijaaW.PrintMore
set_option linter.unusedVariables false
set_option linter.unusedSimpArgs false
set_option maxHeartbeats 1000000
theorem lenS_in {c s n : Int} (hc : 0 ≤ c ∧ c ≤ 255) (hs : 0 ≤ s ∧ s ≤ 255) (hn : 0 ≤ n ∧ n ≤ 255) : lenS c s n = 11 + 4 * n + c * s + (s + 7) / 8 := by unfold lenS; rw [if_pos (by omega)]
theorem len_j2 (c s n : Int) (hc : 0 ≤ c ∧ c ≤ 255) (hs : 0 ≤ s ∧ s ≤ 255) (hn : 0 ≤ n ∧ n ≤ 255) : Ev (fun k => caesuralaw06_TableLengths.j2 k c s n false) true := by
  refine Ev.step (f := fun k => (table_Length.f 0 0 0).bind fun t793 => (if t793 = 11 then ((table_Length.f (-1) s n).bind fun t794 => (if t794 = 0 then ((table_Length.f c 256 n).bind fun t795 => (if t795 = 0 then ((caesuralaw06_wakes.f k).bind fun t796 => (some t796)) else (none))) else (none))) else (none))) (fun k => by simp [caesuralaw06_TableLengths.j2]) ?_
  refine Ev.bindc (tlen_eq _ _ _) (Ev.pos (by decide) (Ev.bindc (tlen_eq _ _ _) (Ev.pos (by unfold lenS; rw [if_neg (by omega)]) (Ev.bindc (tlen_eq _ _ _) (Ev.pos (by unfold lenS; rw [if_neg (by omega)]) (Ev.bind wakes (Ev.now _)))))))
theorem len_j1 (c s n x7 : Int) (hc : 0 ≤ c ∧ c ≤ 255) (hs : 0 ≤ s ∧ s ≤ 255) (hn : 0 ≤ n ∧ n ≤ 255) (h7 : x7 = if s % 8 = 0 then 1 else 0) : Ev (fun k => caesuralaw06_TableLengths.j1 k c s n (lenS c s n) x7) true := by
  have hm := mul255 hc hs
  have hv : x7 = (s + 8) / 8 - (s + 7) / 8 := by split at h7 <;> omega
  by_cases h : s < 255
  · have e : lenS c (s + 1) n = lenS c s n + c + x7 := by
      rw [lenS_in hc hs hn, lenS_in hc (by omega) hn, Int.mul_add, Int.mul_one, hv, show s + 1 + 7 = s + 8 by omega]; omega
    have hb : 0 ≤ lenS c s n ∧ lenS c s n ≤ 100000 := by rw [lenS_in hc hs hn]; omega
    have hx : 0 ≤ x7 ∧ x7 ≤ 1 := by split at h7 <;> omega
    refine Ev.step (f := fun k => caesuralaw06_TableLengths.j2 k c s n false) (fun k => ?_) (len_j2 c s n hc hs hn)
    simp only [caesuralaw06_TableLengths.j1]
    rw [if_pos h, w64 (n := s + 1) (by omega) (by omega), tlen_eq, Option.bind_some, e, w64 (n := lenS c s n + c) (by omega) (by omega), w64 (by omega) (by omega)]
    simp
  · refine Ev.step (f := fun k => caesuralaw06_TableLengths.j2 k c s n false) (fun k => ?_) (len_j2 c s n hc hs hn)
    simp only [caesuralaw06_TableLengths.j1]
    rw [if_neg h]
theorem len_j0 (c s n : Int) (hc : 0 ≤ c ∧ c ≤ 255) (hs : 0 ≤ s ∧ s ≤ 255) (hn : 0 ≤ n ∧ n ≤ 255) : Ev (fun k => caesuralaw06_TableLengths.j0 k c s n (lenS c s n) false) true := by
  have et : Int.tmod s 8 = s % 8 := tmod_nn hs.1
  by_cases h : s % 8 = 0
  · refine Ev.step (f := fun k => caesuralaw06_TableLengths.j1 k c s n (lenS c s n) 1) (fun k => ?_) (len_j1 c s n 1 hc hs hn (by rw [if_pos h]))
    simp only [caesuralaw06_TableLengths.j0]
    rw [if_neg (by decide), et, if_pos h]
  · refine Ev.step (f := fun k => caesuralaw06_TableLengths.j1 k c s n (lenS c s n) 0) (fun k => ?_) (len_j1 c s n 0 hc hs hn (by rw [if_neg h]))
    simp only [caesuralaw06_TableLengths.j0]
    rw [if_neg (by decide), et, if_neg h]
theorem TableLengths : caesuralaw06_TableLengths.Pure := by
  have key : ∀ c s n : Int, (0 ≤ c ∧ c < 256) → (0 ≤ s ∧ s < 256) → (0 ≤ n ∧ n < 256) → Ev (fun k => caesuralaw06_TableLengths.f k c s n) true := by
    intro c s n b0 b1 b2
    have gc : 0 ≤ c ∧ c ≤ 255 := by omega
    have gs : 0 ≤ s ∧ s ≤ 255 := by omega
    have gn : 0 ≤ n ∧ n ≤ 255 := by omega
    have hm := mul255 gc gs
    have hb : 0 ≤ lenS c s n ∧ lenS c s n ≤ 100000 := by rw [lenS_in gc gs gn]; omega
    have hj := len_j0 c s n gc gs gn
    have e2 : n < 255 → (lenS c s (n + 1) != wrap64 (lenS c s n + 4)) = false := by
      intro h
      rw [w64 (by omega) (by omega), lenS_in gc gs gn, lenS_in gc gs (by omega)]
      simp only [bne_eq_false_iff_eq]
      omega
    show Ev (fun k => caesuralaw06_TableLengths.f k c s n) true
    · unfold caesuralaw06_TableLengths.f
      rw [w64 (n := c) (by omega) (by omega), w64 (n := s) (by omega) (by omega), w64 (n := n) (by omega) (by omega), w64 (n := n + 1) (by omega) (by omega), w64 (n := c + 1) (by omega) (by omega)]
      refine Ev.bindc (tlen_eq _ _ _) ?_
      by_cases h : c < 255
      · refine Ev.pos h (Ev.bindc (tlen_eq _ _ _) (Ev.pos ?_ ?_))
        · rw [w64 (by omega) (by omega), lenS_in gc gs gn, lenS_in (by omega) gs gn, Int.add_mul, Int.one_mul]; omega
        · by_cases h' : n < 255
          · refine Ev.pos h' (Ev.bindc (tlen_eq _ _ _) ?_)
            rw [e2 h']; exact hj
          · exact Ev.neg h' hj
      · refine Ev.neg h ?_
        by_cases h' : n < 255
        · refine Ev.pos h' (Ev.bindc (tlen_eq _ _ _) ?_)
          rw [e2 h']; exact hj
        · exact Ev.neg h' hj
  intro x0 ⟨h0, h1, h2⟩
  exact Ev.rounds (key x0.f0 x0.f1 x0.f2 (u8b h0) (u8b h1) (u8b h2))
end Go.Proofs.Ytpcbhghgommijaa.PureTableLengths
namespace Go.Proofs.Ytpcbhghgommijaa.Pure
theorem TableLengths : X.caesuralaw06_TableLengths.Pure := PureTableLengths.TableLengths
end Go.Proofs.Ytpcbhghgommijaa.Pure
