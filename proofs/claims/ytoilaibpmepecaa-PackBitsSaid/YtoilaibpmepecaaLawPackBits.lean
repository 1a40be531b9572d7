/- The law caesura/caesuralaw05.PackBits: for every input it returns true, and its arguments read afterwards as before. No condition. -/
import Derived.Test.YtoilaibpmepecaaRows
import Derived.Test.YtoilaibpmepecaaXx10
import Derived.Test.YtoilaibpmepecaaPurePackBits
import Derived.Test.YtoilaibpmepecaaXOpens
import Derived.WalkKit
import Derived.ProofKit
import Derived.OpenShut
import Derived.ShutString
import Derived.ChangeOld
import Derived.Below
import Derived.SizedLaws
import Derived.Test.YtoilaibpmepecaaWSized
namespace Go.Proofs.Ytoilaibpmepecaa.packBits
open Go.ChangeShapes Go.WideShapes Go.ChangeAt Go.RowKit Go.Proofs.Ytoilaibpmepecaa.X Go.Proofs.YtoilaibpmepecaaW.PrintWords
open Go.ChangeMaps (open_string shut_string)
set_option linter.unusedVariables false
theorem own : ownKnob Try.prog.godebug = none := by kernel_rfl
theorem laidOut : laidOutB Try.prog = true := by kernel_rfl
theorem opens4 : XOpens.Opens Try.prog 4 Kd.bool (fun x => True) :=
  XOpens.opens_bool Try.underlying4
theorem opens36 : XOpens.Opens Try.prog 36 (Kd.slice 4 Kd.bool) (fun x => (x.length ≤ maxLen ∧ ∀ x426 ∈ x, True)) :=
  XOpens.opens_slice Try.underlying36 (by kernel_rfl) opens4
set_option maxRecDepth 100000 in
theorem lifted (os : Os) (started : os.Started) (H : Type) (enc : TypeId × Value → H) :
    ReturnsInHanded {} Try.checked os 11 .any (Rows.packBitsSpec.pre6 enc Try.prog Try.f11 Rows.packBitsRow.domain false) (Rows.packBitsSpec.post enc Try.prog Try.f11 false true false false) := by
  refine returnsInHanded_of_change_sized (C := Try.checked) own started (by kernel_rfl) Try.func11
    (ChangeSpec.witness6 (enc := enc) (C := Try.checked) false ⟨#[], #[.slice none 0 0], []⟩ 8 (by kernel_rfl) (by kernel_rfl) (by kernel_rfl) (by kernel_rfl)) ?_
  intro W base args ds gs before hval0 hW hcnd hsz0 _
  have hsz : (DataW.weightsEach Try.prog (Try.f11.params.toList ++ Rows.packBitsSpec.plain.varTypes Try.prog) (ds ++ gs)).all (· ≤ reachBytes) = true := hsz0
  have hval : ∀ (j : Nat) t v, Try.f11.params[j]? = some t → args[j]? = some v → Value.okWide Try.prog W .any base t v := hval0
  have hW' := hW
  obtain ⟨p, q, hA0, hV, rfl, hfz, hnd⟩ := hW
  have hA : DataW.TrodAll enc Try.prog W 0 (fun _ => true) true Try.f11.params.toList args.toList ds p := hA0
  rw [Try.params11] at hA hval hsz
  obtain ⟨v0, vs0, d0, ds0, p0, q0, hargs, rfl, rfl, h0, r0⟩ := trodAll_cons hA
  obtain ⟨rfl, rfl, rfl⟩ := trodAll_nil r0
  obtain rfl : args = #[v0] := by cases args; simp_all
  obtain ⟨rfl, rfl⟩ := trodVars_none hV
  have lt0 : ∀ x ∈ p0, x.block < W.heap.size := by obtain ⟨m, hm⟩ := h0; exact DataW.trod_lt m _ _ _ hm
  obtain ⟨a0, len0, cap0, rfl⟩ := okWide_slice Try.underlying36 (hval 0 36 v0 rfl rfl)
  obtain ⟨x0, hx0, w0⟩ := (by obtain ⟨m, hm⟩ := h0; exact opens36 _ enc W m _ _ hm : ∃ x, (Kd.slice 4 Kd.bool).K W x [.slice a0 len0 cap0] ∧ ((x.length ≤ maxLen ∧ ∀ x427 ∈ x, True)))
  obtain ⟨A0, c0, e0, hc0, hr0⟩ := hx0
  simp only [List.cons.injEq, Value.slice.injEq, and_true] at e0
  obtain ⟨rfl, rfl, rfl⟩ := e0
  clear hA0 hval0 hsz0 hsz
  obtain ⟨k, h⟩ := Pure.PackBits x0 w0
  refine (caesuralaw05_PackBits.calls k _ _ _ true W hr0 hc0 h).mono fun e W' hh => ?_
  obtain ⟨he, bel0⟩ := hh
  have bel : Below W.heap.size W W' := bel0
  subst he
  exact ⟨_, rfl, _, _, _, [], _, [], hW', trodAll_mk1 (shut_bool Try.underlying4 _), (trodAll_cons_mk (Below.trod laidOut (by kernel_rfl) (of_decide_eq_true (by kernel_rfl)) h0 bel lt0) trodAll_mk0), rfl, bel.frame _, fun h => by cases h⟩
theorem over : Rows.packBitsRow.holds Try.pinned (OpenSpec.ofChange Rows.packBitsSpec) :=
  OpenClaim.holds_of_wide 11 Try.f11 rfl rfl rfl rfl rfl rfl rfl ⟨rfl, rfl, rfl, rfl, rfl⟩ rfl rfl rfl rfl rfl (by kernel_rfl) Try.func11 (by kernel_rfl)
    (of_decide_eq_true (by kernel_rfl)) (by unfold Func.isWrapper; first | (rw [if_pos (by decide +kernel)]; kernel_rfl) | (rw [if_neg (by decide +kernel)]; exact ⟨rfl, rfl⟩))
    (fun os started H enc _ => lifted os started H enc)
theorem proved : Rows.PackBitsSaid := over
#print axioms proved
end Go.Proofs.Ytoilaibpmepecaa.packBits
namespace Go.Proofs.Ytoilaibpmepecaa
/-- The row, under a short name, for the claim. -/
theorem packBits_holds : Rows.PackBitsSaid := packBits.proved
end Go.Proofs.Ytoilaibpmepecaa
