/- The small look of package caesuralaw06 tells true. -/
import Derived.Test.YtpcbhghgommijaaXTabEq
import Derived.Test.YtpcbhghgommijaaXx9
namespace Go.Proofs.Ytpcbhghgommijaa.XWakes06
open Go Go.RowKit Go.Proofs.Ytpcbhghgommijaa.X Go.Proofs.Ytpcbhghgommijaa.XPure Go.Proofs.Ytpcbhghgommijaa.XPack Go.Proofs.Ytpcbhghgommijaa.XTable Go.Proofs.Ytpcbhghgommijaa.XTabEq Go.Proofs.YtpcbhghgommijaaW.PrintWords Go.Proofs.YtpcbhghgommijaaW.PrintLast Go.Proofs.YtpcbhghgommijaaW.PrintMore
set_option linter.unusedVariables false
set_option linter.unusedSimpArgs false
set_option maxHeartbeats 1000000
theorem is_bits2 : IsBits [false, true] [2] := by
  refine ⟨rfl, by decide, fun j => ?_⟩
  by_cases h : j < 8
  · have : ∀ j, j < 8 → bitAt [2] j = [false, true].getD j false := by decide
    exact this j h
  · rw [bitAt_out _ _ (by simp; omega)]
    simp only [List.getD]
    rw [List.getElem?_eq_none (by simp; omega)]
    rfl
def wb : List Ba := [⟨0, 0⟩, ⟨65827, 1⟩]
def wn : List (List Int) := [[0, 1], [1, 0]]
def we : List Int := encB 2 wb wn [2]
theorem we_dec : decS we = (2, wb, wn, [false, true], 0) := by decide +kernel
theorem we_bytes : ∀ x ∈ we, 0 ≤ x ∧ x < 256 := by decide +kernel
theorem we_len : we.length = 24 := by decide +kernel
theorem we_at : rd we 0 = 66 ∧ rd we 4 = 2 ∧ rd we 11 = 1 ∧ rd we 12 = 1 ∧ rd we 13 = 35 ∧ rd we 14 = 1 ∧ rd we 19 = 2 := by decide +kernel
theorem wakes : Ev (fun k => caesuralaw06_wakes.f k) true := by
  have hm : mayS 2 wb wn [false, true] = true := by decide
  obtain ⟨bits, hbits, he⟩ := (enc_ev 2 wb wn [false, true] (by decide) (by decide) (by decide)).2 hm
  obtain rfl : bits = [2] := bits_one hbits is_bits2
  have hd := dec_ev we we_bytes (by rw [we_len]; decide)
  rw [we_dec] at hd
  have hd0 := dec_ev [] (by simp) (by decide)
  have hd20 := dec_ev (List.replicate 20 0) (by decide) (by decide)
  have hs := same_ev 2 wb wn [false, true] 2 wb wn [false, true] (by decide) (by decide) (by decide) (by decide)
  have hk := ktable_ev 2 wb wn [false, true] 2 wb wn [false, true] (by decide) (by decide) (by decide) (by decide)
  have hq : eqS 2 wb wn [false, true] 2 wb wn [false, true] = true := by simp [eqS]
  rw [hq] at hs hk
  obtain ⟨a0, a4, a11, a12, a13, a14, a19⟩ := we_at
  have hl := we_len
  unfold caesuralaw06_wakes.f
  refine Ev.bindc rfl (Ev.bindc rfl (Ev.bindc rfl (Ev.bind he (Ev.bind hd (Ev.bind hd0 (Ev.pos (by decide) (Ev.bind hd20 ?_)))))))
  show Ev (fun k => if true = true then (if (we.length : Int) = 24 then _ else _) else _) true
  rw [hl]
  refine Ev.pos rfl (Ev.pos rfl (Ev.bindc (tlen_eq 2 2 2) (Ev.pos (by decide) (Ev.pos (by decide) (Ev.pos a0 (Ev.pos (by decide) (Ev.pos a4 (Ev.pos (by decide) (Ev.pos a11 (Ev.pos (by decide) (Ev.pos a12 (Ev.pos (by decide) (Ev.pos a13 (Ev.pos (by decide) (Ev.pos a14 (Ev.pos (by decide) (Ev.pos a19 (Ev.pos rfl (Ev.bind hs (Ev.pos rfl (Ev.bind hk (Ev.pos rfl ?_))))))))))))))))))))))
  refine Ev.pos (by decide) ?_
  exact Ev.now _
end Go.Proofs.Ytpcbhghgommijaa.XWakes06
