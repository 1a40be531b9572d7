/- What a call tells, held by nobody any more: it may be read, and not be written. -/
import Derived.Test.YthbmifpfhdlicaaVArr
namespace Go.V
set_option linter.unusedVariables false
def frzG (g : List PV → Option (PV × List PV)) (xs : List PV) : Option (PV × List PV) := (g xs).bind fun r => if r.2 = [] then some (r.1.frz, []) else none
theorem Impl.frz {P : Program} {G : Nat → Option (List PV)} {f : FuncId} {g : List PV → Option (PV × List PV)} (h : Impl P G f g) : Impl P G f (frzG g) := by
  intro w Z xs vs φ r outs h1 h2 h3 h4 hg
  unfold frzG at hg
  simp only [Option.bind_eq_some_iff] at hg
  obtain ⟨⟨r0, o0⟩, hg0, hg⟩ := hg
  simp only at hg
  split at hg
  case isFalse => cases hg
  rename_i ho
  subst ho
  simp only [Option.some.injEq, Prod.mk.injEq] at hg
  obtain ⟨rfl, rfl⟩ := hg
  refine (h w Z xs vs φ r0 [] h1 h2 h3 h4 hg0).mono ?_
  rintro e w' ⟨v, Z', φr, φo, he, hv, hos, hnd, hmem, hs, hz⟩
  refine ⟨v, fun b => Z' b ∧ b ∉ φr, [], [], he, RepV_frz (fun b _ hb => hb.1) (fun b hb hb2 => hb2.2 hb) hv, ?_, by simp, by simp, hs, fun b hb hn => ?_⟩
  · simp only [RepTs] at hos ⊢; exact ⟨trivial, hos.2⟩
  · rw [hz b hb hn]
    constructor
    · intro hZ
      refine ⟨hZ, fun hr => ?_⟩
      rcases hmem b (by simp [hr]) with hc | hc
      · exact hn hc
      · omega
    · exact fun h => h.1
theorem Ok_frzG {g : List PV → Option (PV × List PV)} {xs : List PV} {K : PV × List PV → Prop} : Ok (frzG g xs) K = Ok (g xs) fun r => r.2 = [] ∧ K (r.1.frz, []) := by
  unfold frzG
  rw [Ok_bind]
  congr 1
  funext r
  by_cases h : r.2 = [] <;> simp [h]
end Go.V
