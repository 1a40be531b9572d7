/- The law caesura/caesuralaw05.PackBack: for every input it returns true, and its arguments read afterwards as before. No condition. -/
import Derived.Test.YtoilaibpmepecaaRows
import Derived.Test.YtoilaibpmepecaaXx8
import Derived.Test.YtoilaibpmepecaaPurePackBack
import Derived.Test.YtoilaibpmepecaaXOpens
import Derived.WalkKit
import Derived.ProofKit
import Derived.OpenShut
import Derived.ShutString
import Derived.ChangeOld
import Derived.Below
import Derived.SizedLaws
import Derived.Test.YtoilaibpmepecaaWSized
namespace Go.Proofs.Ytoilaibpmepecaa.packBack
open Go.ChangeShapes Go.WideShapes Go.ChangeAt Go.RowKit Go.Proofs.Ytoilaibpmepecaa.X Go.Proofs.YtoilaibpmepecaaW.PrintWords
open Go.ChangeMaps (open_string shut_string)
set_option linter.unusedVariables false
theorem own : ownKnob Try.prog.godebug = none := by kernel_rfl
theorem laidOut : laidOutB Try.prog = true := by kernel_rfl
theorem opens5 : XOpens.Opens Try.prog 5 (Kd.int .u8) (fun x => (Lit.int .u8 x).wf = true) :=
  XOpens.opens_int Try.underlying5
theorem opens34 : XOpens.Opens Try.prog 34 (Kd.slice 5 (Kd.int .u8)) (fun x => (x.length ≤ maxLen ∧ ∀ x420 ∈ x, (Lit.int .u8 x420).wf = true)) :=
  XOpens.opens_slice Try.underlying34 (by kernel_rfl) opens5
theorem opens44 : XOpens.Opens Try.prog 44 (Kd.int .u32) (fun x => (Lit.int .u32 x).wf = true) :=
  XOpens.opens_int Try.underlying44
theorem opens49 : XOpens.Opens Try.prog 49 k49 (fun x => ((Lit.int .u32 x.f0).wf = true ∧ (Lit.int .u32 x.f1).wf = true)) :=
  XOpens.opens_array (fun x : S49 => (x.f0, x.f1)) (fun a => (⟨a.1, a.2⟩ : S49)) (fun _ => rfl) Try.underlying49 (by kernel_rfl) (by kernel_rfl) (XOpens.seg_cons opens44 (by kernel_rfl) (XOpens.seg_one opens44 (by kernel_rfl)))
theorem opens4 : XOpens.Opens Try.prog 4 Kd.bool (fun x => True) :=
  XOpens.opens_bool Try.underlying4
theorem opens36 : XOpens.Opens Try.prog 36 (Kd.slice 4 Kd.bool) (fun x => (x.length ≤ maxLen ∧ ∀ x421 ∈ x, True)) :=
  XOpens.opens_slice Try.underlying36 (by kernel_rfl) opens4
set_option maxRecDepth 100000 in
theorem lifted (os : Os) (started : os.Started) (H : Type) (enc : TypeId × Value → H) :
    ReturnsInHanded {} Try.checked os 9 .any (Rows.packBackSpec.pre6 enc Try.prog Try.f9 Rows.packBackRow.domain false) (Rows.packBackSpec.post enc Try.prog Try.f9 false true false false) := by
  refine returnsInHanded_of_change_sized (C := Try.checked) own started (by kernel_rfl) Try.func9
    (ChangeSpec.witness6 (enc := enc) (C := Try.checked) false ⟨#[], #[.slice none 0 0, .agg #[.int .u32 0, .int .u32 0], .slice none 0 0], []⟩ 8 (by kernel_rfl) (by kernel_rfl) (by kernel_rfl) (by kernel_rfl)) ?_
  intro W base args ds gs before hval0 hW hcnd hsz0 _
  have hsz : (DataW.weightsEach Try.prog (Try.f9.params.toList ++ Rows.packBackSpec.plain.varTypes Try.prog) (ds ++ gs)).all (· ≤ reachBytes) = true := hsz0
  have hval : ∀ (j : Nat) t v, Try.f9.params[j]? = some t → args[j]? = some v → Value.okWide Try.prog W .any base t v := hval0
  have hW' := hW
  obtain ⟨p, q, hA0, hV, rfl, hfz, hnd⟩ := hW
  have hA : DataW.TrodAll enc Try.prog W 0 (fun _ => true) true Try.f9.params.toList args.toList ds p := hA0
  rw [Try.params9] at hA hval hsz
  obtain ⟨v0, vs0, d0, ds0, p0, q0, hargs, rfl, rfl, h0, r0⟩ := trodAll_cons hA
  obtain ⟨v1, vs1, d1, ds1, p1, q1, rfl, rfl, rfl, h1, r1⟩ := trodAll_cons r0
  obtain ⟨v2, vs2, d2, ds2, p2, q2, rfl, rfl, rfl, h2, r2⟩ := trodAll_cons r1
  obtain ⟨rfl, rfl, rfl⟩ := trodAll_nil r2
  obtain rfl : args = #[v0, v1, v2] := by cases args; simp_all
  obtain ⟨rfl, rfl⟩ := trodVars_none hV
  have lt0 : ∀ x ∈ p0, x.block < W.heap.size := by obtain ⟨m, hm⟩ := h0; exact DataW.trod_lt m _ _ _ hm
  obtain ⟨a0, len0, cap0, rfl⟩ := okWide_slice Try.underlying34 (hval 0 34 v0 rfl rfl)
  have y0 : len0 * 1 ≤ 140737488351232 := Go.Proofs.YtoilaibpmepecaaW.PrintWords.sized_ints hsz (j := 0) (t := 34) rfl rfl Try.underlying34 Try.underlying5 (by kernel_rfl) (by kernel_rfl) h0
  obtain ⟨x0, hx0, w0⟩ := (by obtain ⟨m, hm⟩ := h0; exact opens34 _ enc W m _ _ hm : ∃ x, (Kd.slice 5 (Kd.int .u8)).K W x [.slice a0 len0 cap0] ∧ ((x.length ≤ maxLen ∧ ∀ x422 ∈ x, (Lit.int .u8 x422).wf = true)))
  obtain ⟨A0, c0, e0, hc0, hr0⟩ := hx0
  simp only [List.cons.injEq, Value.slice.injEq, and_true] at e0
  obtain ⟨rfl, rfl, rfl⟩ := e0
  have lt1 : ∀ x ∈ p1, x.block < W.heap.size := by obtain ⟨m, hm⟩ := h1; exact DataW.trod_lt m _ _ _ hm
  obtain ⟨cs1, rfl, sz1⟩ := XOpens.okWide_array Try.underlying49 (hval 1 49 v1 rfl rfl)
  obtain ⟨x1, hx1, w1⟩ := (by obtain ⟨m, hm⟩ := h1; exact opens49 _ enc W m _ _ hm : ∃ x, k49.K W x cs1.toList ∧ (((Lit.int .u32 x.f0).wf = true ∧ (Lit.int .u32 x.f1).wf = true)))
  have e1 := k49_open hx1
  obtain rfl : cs1 = #[.int .u32 x1.f0, .int .u32 x1.f1] := by cases cs1; simp_all
  have lt2 : ∀ x ∈ p2, x.block < W.heap.size := by obtain ⟨m, hm⟩ := h2; exact DataW.trod_lt m _ _ _ hm
  obtain ⟨a2, len2, cap2, rfl⟩ := okWide_slice Try.underlying36 (hval 2 36 v2 rfl rfl)
  obtain ⟨x2, hx2, w2⟩ := (by obtain ⟨m, hm⟩ := h2; exact opens36 _ enc W m _ _ hm : ∃ x, (Kd.slice 4 Kd.bool).K W x [.slice a2 len2 cap2] ∧ ((x.length ≤ maxLen ∧ ∀ x423 ∈ x, True)))
  obtain ⟨A2, c2, e2, hc2, hr2⟩ := hx2
  simp only [List.cons.injEq, Value.slice.injEq, and_true] at e2
  obtain ⟨rfl, rfl, rfl⟩ := e2
  clear hA0 hval0 hsz0 hsz
  obtain ⟨k, h⟩ := Pure.PackBack x0 x1 x2 w0 y0 w1 w2
  refine (caesuralaw05_PackBack.calls k _ _ _ _ _ _ _ _ true W hr0 hc0 hr2 hc2 h).mono fun e W' hh => ?_
  obtain ⟨he, bel0⟩ := hh
  have bel : Below W.heap.size W W' := bel0
  subst he
  exact ⟨_, rfl, _, _, _, [], _, [], hW', trodAll_mk1 (shut_bool Try.underlying4 _), (trodAll_cons_mk (Below.trod laidOut (by kernel_rfl) (of_decide_eq_true (by kernel_rfl)) h0 bel lt0) (trodAll_cons_mk (Below.trod laidOut (by kernel_rfl) (of_decide_eq_true (by kernel_rfl)) h1 bel lt1) (trodAll_cons_mk (Below.trod laidOut (by kernel_rfl) (of_decide_eq_true (by kernel_rfl)) h2 bel lt2) trodAll_mk0))), rfl, bel.frame _, fun h => by cases h⟩
theorem over : Rows.packBackRow.holds Try.pinned (OpenSpec.ofChange Rows.packBackSpec) :=
  OpenClaim.holds_of_wide 9 Try.f9 rfl rfl rfl rfl rfl rfl rfl ⟨rfl, rfl, rfl, rfl, rfl⟩ rfl rfl rfl rfl rfl (by kernel_rfl) Try.func9 (by kernel_rfl)
    (of_decide_eq_true (by kernel_rfl)) (by unfold Func.isWrapper; first | (rw [if_pos (by decide +kernel)]; kernel_rfl) | (rw [if_neg (by decide +kernel)]; exact ⟨rfl, rfl⟩))
    (fun os started H enc _ => lifted os started H enc)
theorem proved : Rows.PackBackSaid := over
#print axioms proved
end Go.Proofs.Ytoilaibpmepecaa.packBack
namespace Go.Proofs.Ytoilaibpmepecaa
/-- The row, under a short name, for the claim. -/
theorem packBack_holds : Rows.PackBackSaid := packBack.proved
end Go.Proofs.Ytoilaibpmepecaa
