/- The law caesura/caesuralaw06.TableLengths: for every input it returns true, and its arguments read afterwards as before. No condition. -/
import Derived.Test.YtpcbhghgommijaaRows
import Derived.Test.YtpcbhghgommijaaXx20
import Derived.Test.YtpcbhghgommijaaPureTableLengths
import Derived.Test.YtpcbhghgommijaaXOpens
import Derived.WalkKit
import Derived.ProofKit
import Derived.OpenShut
import Derived.ShutString
import Derived.ChangeOld
import Derived.Below
import Derived.SizedLaws
import Derived.Test.YtpcbhghgommijaaWSized
namespace Go.Proofs.Ytpcbhghgommijaa.tableLengths
open Go.ChangeShapes Go.WideShapes Go.ChangeAt Go.RowKit Go.Proofs.Ytpcbhghgommijaa.X Go.Proofs.YtpcbhghgommijaaW.PrintWords
open Go.ChangeMaps (open_string shut_string)
set_option linter.unusedVariables false
theorem own : ownKnob Try.prog.godebug = none := by kernel_rfl
theorem laidOut : laidOutB Try.prog = true := by kernel_rfl
theorem opens5 : XOpens.Opens Try.prog 5 (Kd.int .u8) (fun x => (Lit.int .u8 x).wf = true) :=
  XOpens.opens_int Try.underlying5
theorem opens56 : XOpens.Opens Try.prog 56 k56 (fun x => ((Lit.int .u8 x.f0).wf = true ∧ ((Lit.int .u8 x.f1).wf = true ∧ (Lit.int .u8 x.f2).wf = true))) :=
  XOpens.opens_array (fun x : S56 => (x.f0, x.f1, x.f2)) (fun a => (⟨a.1, a.2.1, a.2.2⟩ : S56)) (fun _ => rfl) Try.underlying56 (by kernel_rfl) (by kernel_rfl) (XOpens.seg_cons opens5 (by kernel_rfl) (XOpens.seg_cons opens5 (by kernel_rfl) (XOpens.seg_one opens5 (by kernel_rfl))))
set_option maxRecDepth 100000 in
theorem lifted (os : Os) (started : os.Started) (H : Type) (enc : TypeId × Value → H) :
    ReturnsInHanded {} Try.checked os 8 .any (Rows.tableLengthsSpec.pre6 enc Try.prog Try.f8 Rows.tableLengthsRow.domain false) (Rows.tableLengthsSpec.post enc Try.prog Try.f8 false true false false) := by
  refine returnsInHanded_of_change_sized (C := Try.checked) own started (by kernel_rfl) Try.func8
    (ChangeSpec.witness6 (enc := enc) (C := Try.checked) false ⟨#[], #[.agg #[.int .u8 0, .int .u8 0, .int .u8 0]], []⟩ 8 (by kernel_rfl) (by kernel_rfl) (by kernel_rfl) (by kernel_rfl)) ?_
  intro W base args ds gs before hval0 hW hcnd hsz0 _
  have hsz : (DataW.weightsEach Try.prog (Try.f8.params.toList ++ Rows.tableLengthsSpec.plain.varTypes Try.prog) (ds ++ gs)).all (· ≤ reachBytes) = true := hsz0
  have hval : ∀ (j : Nat) t v, Try.f8.params[j]? = some t → args[j]? = some v → Value.okWide Try.prog W .any base t v := hval0
  have hW' := hW
  obtain ⟨p, q, hA0, hV, rfl, hfz, hnd⟩ := hW
  have hA : DataW.TrodAll enc Try.prog W 0 (fun _ => true) true Try.f8.params.toList args.toList ds p := hA0
  rw [Try.params8] at hA hval hsz
  obtain ⟨v0, vs0, d0, ds0, p0, q0, hargs, rfl, rfl, h0, r0⟩ := trodAll_cons hA
  obtain ⟨rfl, rfl, rfl⟩ := trodAll_nil r0
  obtain rfl : args = #[v0] := by cases args; simp_all
  obtain ⟨rfl, rfl⟩ := trodVars_none hV
  have lt0 : ∀ x ∈ p0, x.block < W.heap.size := by obtain ⟨m, hm⟩ := h0; exact DataW.trod_lt m _ _ _ hm
  obtain ⟨cs0, rfl, sz0⟩ := XOpens.okWide_array Try.underlying56 (hval 0 56 v0 rfl rfl)
  obtain ⟨x0, hx0, w0⟩ := (by obtain ⟨m, hm⟩ := h0; exact opens56 _ enc W m _ _ hm : ∃ x, k56.K W x cs0.toList ∧ (((Lit.int .u8 x.f0).wf = true ∧ ((Lit.int .u8 x.f1).wf = true ∧ (Lit.int .u8 x.f2).wf = true))))
  have e0 := k56_open hx0
  obtain rfl : cs0 = #[.int .u8 x0.f0, .int .u8 x0.f1, .int .u8 x0.f2] := by cases cs0; simp_all
  clear hA0 hval0 hsz0 hsz
  obtain ⟨k, h⟩ := Pure.TableLengths x0 w0
  refine (caesuralaw06_TableLengths.calls k _ _ _ true W  h).mono fun e W' hh => ?_
  obtain ⟨he, bel0⟩ := hh
  have bel : Below W.heap.size W W' := bel0
  subst he
  exact ⟨_, rfl, _, _, _, [], _, [], hW', trodAll_mk1 (shut_bool Try.underlying4 _), (trodAll_cons_mk (Below.trod laidOut (by kernel_rfl) (of_decide_eq_true (by kernel_rfl)) h0 bel lt0) trodAll_mk0), rfl, bel.frame _, fun h => by cases h⟩
theorem over : Rows.tableLengthsRow.holds Try.pinned (OpenSpec.ofChange Rows.tableLengthsSpec) :=
  OpenClaim.holds_of_wide 8 Try.f8 rfl rfl rfl rfl rfl rfl rfl ⟨rfl, rfl, rfl, rfl, rfl⟩ rfl rfl rfl rfl rfl (by kernel_rfl) Try.func8 (by kernel_rfl)
    (of_decide_eq_true (by kernel_rfl)) (by unfold Func.isWrapper; first | (rw [if_pos (by decide +kernel)]; kernel_rfl) | (rw [if_neg (by decide +kernel)]; exact ⟨rfl, rfl⟩))
    (fun os started H enc _ => lifted os started H enc)
theorem proved : Rows.TableLengthsSaid := over
#print axioms proved
end Go.Proofs.Ytpcbhghgommijaa.tableLengths
namespace Go.Proofs.Ytpcbhghgommijaa
/-- The row, under a short name, for the claim. -/
theorem tableLengths_holds : Rows.TableLengthsSaid := tableLengths.proved
end Go.Proofs.Ytpcbhghgommijaa
