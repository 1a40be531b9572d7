/- What pack's functions tell is what the reference tells, at any bytes (up to 500), numbers, lists of bits (up to 500). No condition. -/
import Derived.Test.YtoilaibpmepecaaXRefPack
import Derived.Test.YtoilaibpmepecaaXKeep
import Derived.Test.YtoilaibpmepecaaXWakes05
import Derived.Test.YtoilaibpmepecaaXx7
namespace Go.Proofs.Ytoilaibpmepecaa.PurePackTells
open Go Go.Proofs.Ytoilaibpmepecaa.XRefPack Go.Proofs.Ytoilaibpmepecaa.XWakes05 Go.RowKit Go.Proofs.Ytoilaibpmepecaa.X Go.Proofs.Ytoilaibpmepecaa.XPure Go.Proofs.Ytoilaibpmepecaa.XPack Go.Proofs.Ytoilaibpmepecaa.XKeep Go.Proofs.YtoilaibpmepecaaW.PrintWords Go.Proofs.YtoilaibpmepecaaW.PrintLast Go.Proofs.YtoilaibpmepecaaW.PrintMore
set_option linter.unusedVariables false
set_option linter.unusedSimpArgs false
set_option maxHeartbeats 1000000

theorem PackTells : caesuralaw05_PackTells.Pure := by
  intro b n l hb _ hn hl
  have hb' : ∀ x ∈ b, 0 ≤ x ∧ x < 256 := fun x hx => u8b (hb.2 x hx)
  have h1 := i64b hn.2.1
  refine Ev.rounds (g := fun k => caesuralaw05_PackTells.f k b n.f0 n.f1 n.f2 l) ?_
  have hw : ∀ x : Bool, x = true → Ev (fun k => caesuralaw05_PackTells.j0 k b l x n.f0 n.f1 n.f2) true := by
    intro x hx
    subst hx
    refine Ev.step (f := fun k => (caesuralaw05_wakes.f k).bind fun t => some t) (fun k => by simp only [caesuralaw05_PackTells.j0, if_true]) (Ev.bind wakes (Ev.now _))
  unfold caesuralaw05_PackTells.f
  by_cases c1 : (b.length : Int) > 500
  · exact Ev.pos c1 (hw _ rfl)
  · refine Ev.neg c1 ?_
    by_cases c2 : (l.length : Int) > 500
    · exact hw _ (decide_eq_true c2)
    · rw [decide_eq_false c2]
      refine Ev.step (fun k => by simp only [caesuralaw05_PackTells.j0, Bool.false_eq_true, if_false]; rfl) ?_
      refine Ev.bindc rfl (Ev.pos (by simp; omega) (Ev.bindc rfl (Ev.bindc rfl (Ev.pos (by simp; omega) (Ev.bindc rfl ?_)))))
      simp only [List.nil_append]
      have hp := put_bytes b n.f0 n.f2 hb'
      obtain ⟨r1, hr1, q1⟩ := bits_ev l (by omega)
      obtain ⟨r2, hr2, q2⟩ := rbits_ev l (by omega)
      have hr : r1 = r2 := bits_one q1 q2
      have hul : (unbitsS b n.f0).1.length ≤ 1000000000000 := by
        unfold unbitsS
        split
        · rename_i h
          have := (ok_iff b n.f0).1 h
          simp
          omega
        · simp
      refine Ev.bind (get_ev b n.f1 n.f2 hb' (by omega) h1) (Ev.bind (rget_ev b n.f1 n.f2 hb' (by omega)) (Ev.bind (unbits_ev b n.f0 hb' (by omega)) (Ev.bind (runbits_ev b n.f0 hb' (by omega)) ?_)))
      refine Ev.bindc (put_eq b n.f0 n.f2 (by omega)) (Ev.bind (rput_ev b n.f0 n.f2 (by omega)) (Ev.bindc (keep_bytes _ _ hp hp) ?_))
      refine Ev.pos (decide_eq_true rfl) (Ev.pos rfl (Ev.pos (beq_self_eq_true _) ?_))
      refine Ev.bind (sum_ev b hb' (by omega)) (Ev.bind (rsum_ev b hb' (by omega)) (Ev.pos rfl ?_))
      refine Ev.bind hr1 (Ev.bind hr2 (Ev.bindc (keep_bytes _ _ q1.bytes q2.bytes) (Ev.pos (decide_eq_true hr) ?_)))
      refine Ev.bind (keep_bools _ _ hul) (Ev.pos (decide_eq_true rfl) (Ev.pos (beq_self_eq_true _) ?_))
      refine Ev.bindc (keep_bytes _ _ hb' hb') (Ev.pos (decide_eq_true rfl) ?_)
      exact Ev.bind (keep_bools _ _ (by omega)) (Ev.pos (decide_eq_true rfl) (Ev.bind wakes (Ev.now _)))
end Go.Proofs.Ytoilaibpmepecaa.PurePackTells
namespace Go.Proofs.Ytoilaibpmepecaa.Pure
theorem PackTells : X.caesuralaw05_PackTells.Pure := PurePackTells.PackTells
end Go.Proofs.Ytoilaibpmepecaa.Pure
