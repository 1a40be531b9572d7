/- The law caesura/caesuralaw06.TableLengths: for every input it returns true, and its arguments read afterwards as before. No condition. -/
import Derived.Test.YtlcplpapiikkpaaRows
import Derived.Test.YtlcplpapiikkpaaJ1
import Derived.Test.YtlcplpapiikkpaaLB
import Derived.WalkKit
import Derived.ProofKit
import Derived.OpenShut
import Derived.ShutString
import Derived.ChangeOld
import Derived.SizedLaws
import Derived.Below
namespace Go.Proofs.Ytlcplpapiikkpaa.tableLengths
open Go.V Go.ChangeShapes Go.WideShapes Go.ChangeAt Go.RowKit
open Go.ChangeMaps (open_string shut_string)
set_option linter.unusedVariables false
theorem own : ownKnob Try.prog.godebug = none := by kernel_rfl
theorem laidOut : laidOutB Try.prog = true := by kernel_rfl
theorem opens_5 : OpensV Try.prog 5 pY (fun _ => True) := by
  have h := openV_byte Try.underlying5
  exact h
theorem opens_52 : OpensV Try.prog 52 (fun x : UInt8 × UInt8 × UInt8 => PV.agg [pY (x.1), pY (x.2.1), pY (x.2.2)]) (fun x => (fun _ => True) (x.1) ∧ (fun _ => True) (x.2.1) ∧ (fun _ => True) (x.2.2)) := by
  have h := openV_array (fun x : UInt8 × UInt8 × UInt8 => x) (fun x : UInt8 × UInt8 × UInt8 => x) (fun _ => rfl) Try.underlying52 (by kernel_rfl) (by kernel_rfl) (segV_cons (n1 := 1) opens_5 (by kernel_rfl) (segV_cons (n1 := 1) opens_5 (by kernel_rfl) (segV_one (n := 1) opens_5 (by kernel_rfl))))
  exact h
set_option maxRecDepth 100000 in
theorem lifted (os : Os) (started : os.Started) (H : Type) (enc : TypeId × Value → H) :
    ReturnsInHanded {} Try.checked os 7 .any (Rows.tableLengthsSpec.pre6 enc Try.prog Try.f7 Rows.tableLengthsRow.domain false) (Rows.tableLengthsSpec.post enc Try.prog Try.f7 false true false false) := by
  refine returnsInHanded_of_change_sized (C := Try.checked) own started (by kernel_rfl) Try.func7
    (ChangeSpec.witness6 (enc := enc) (C := Try.checked) false ⟨#[], #[.agg #[.int .u8 0, .int .u8 0, .int .u8 0]], []⟩ 8 (by kernel_rfl) (by kernel_rfl) (by kernel_rfl) (by kernel_rfl)) ?_
  intro W base args ds gs before hval0 hW hcnd hsz0 _
  have hval : ∀ (j : Nat) t v, Try.f7.params[j]? = some t → args[j]? = some v → Value.okWide Try.prog W .any base t v := hval0
  have hW' := hW
  obtain ⟨p, q, hA0, hV, rfl, hfz, hnd⟩ := hW
  have hA : DataW.TrodAll enc Try.prog W 0 (fun _ => true) true Try.f7.params.toList args.toList ds p := hA0
  rw [Try.params7] at hA hval
  obtain ⟨v0, vs0, d0, ds0, p0, q0, hargs, rfl, rfl, h0, r0⟩ := trodAll_cons hA
  obtain ⟨rfl, rfl, rfl⟩ := trodAll_nil r0
  obtain rfl : args = #[v0] := by cases args; simp_all
  obtain ⟨rfl, rfl⟩ := trodVars_none hV
  have lt0 : ∀ x ∈ p0, x.block < W.heap.size := by obtain ⟨m, hm⟩ := h0; exact DataW.trod_lt m _ _ _ hm
  obtain ⟨cs0, rfl⟩ := okWide_agg (P := Try.prog) (t := 52) (by decide +kernel) (hval 0 52 v0 rfl rfl)
  obtain ⟨x0, hx0, w0⟩ := (by obtain ⟨m, hm⟩ := h0; exact opens_52 _ enc W m _ _ hm : ∃ x, Rep W nobody ((fun x : UInt8 × UInt8 × UInt8 => PV.agg [pY (x.1), pY (x.2.1), pY (x.2.2)]) x) [] _ ∧ (fun x => (fun _ => True) (x.1) ∧ (fun _ => True) (x.2.1) ∧ (fun _ => True) (x.2.2)) x)
  have k0 : RepV1 W nobody ((fun x : UInt8 × UInt8 × UInt8 => PV.agg [pY (x.1), pY (x.2.1), pY (x.2.2)]) x0) [] _ := RepV1_agg hx0
  refine (law_calls (vs := [_]) (law_law06_TableLengths ) (RepTs_cons' k0 RepTs_nil') (by simp [PV.notTup, PV.noOwn, noOwnL]) globOk_none (law_law06_TableLengths_eq x0 w0)).mono fun e W' hh => ?_
  obtain ⟨he, bel0⟩ := hh
  have bel : Below W.heap.size W W' := bel0
  subst he
  exact ⟨_, rfl, _, _, _, [], _, [], hW', trodAll_mk1 (shut_bool Try.underlying4 _), (trodAll_cons_mk (Below.trod laidOut (by kernel_rfl) (of_decide_eq_true (by kernel_rfl)) h0 bel lt0) trodAll_mk0), rfl, bel.frame _, fun h => by cases h⟩
theorem over : Rows.tableLengthsRow.holds Try.pinned (OpenSpec.ofChange Rows.tableLengthsSpec) :=
  OpenClaim.holds_of_wide 7 Try.f7 rfl rfl rfl rfl rfl rfl rfl ⟨rfl, rfl, rfl, rfl, rfl⟩ rfl rfl rfl rfl rfl (by kernel_rfl) Try.func7 (by kernel_rfl)
    (of_decide_eq_true (by kernel_rfl)) (by unfold Func.isWrapper; first | (rw [if_pos (by decide +kernel)]; kernel_rfl) | (rw [if_neg (by decide +kernel)]; exact ⟨rfl, rfl⟩))
    (fun os started H enc _ => lifted os started H enc)
end Go.Proofs.Ytlcplpapiikkpaa.tableLengths
namespace Go.Proofs.Ytlcplpapiikkpaa
/-- The row, under a short name, for the claim. -/
theorem tableLengths_holds : Rows.TableLengthsSaid := tableLengths.over
#print axioms tableLengths_holds
end Go.Proofs.Ytlcplpapiikkpaa
