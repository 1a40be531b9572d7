/- The law caesura/caesuralaw05.PackRows: for every input it returns true, and its arguments read afterwards as before. No condition. -/
import Derived.Test.YtoilaibpmepecaaRows
import Derived.Test.YtoilaibpmepecaaXx11
import Derived.Test.YtoilaibpmepecaaPurePackRows
import Derived.Test.YtoilaibpmepecaaXOpens
import Derived.WalkKit
import Derived.ProofKit
import Derived.OpenShut
import Derived.ShutString
import Derived.ChangeOld
import Derived.Below
import Derived.SizedLaws
import Derived.Test.YtoilaibpmepecaaWSized
namespace Go.Proofs.Ytoilaibpmepecaa.packRows
open Go.ChangeShapes Go.WideShapes Go.ChangeAt Go.RowKit Go.Proofs.Ytoilaibpmepecaa.X Go.Proofs.YtoilaibpmepecaaW.PrintWords
open Go.ChangeMaps (open_string shut_string)
set_option linter.unusedVariables false
theorem own : ownKnob Try.prog.godebug = none := by kernel_rfl
theorem laidOut : laidOutB Try.prog = true := by kernel_rfl
theorem opens44 : XOpens.Opens Try.prog 44 (Kd.int .u32) (fun x => (Lit.int .u32 x).wf = true) :=
  XOpens.opens_int Try.underlying44
theorem opens55 : XOpens.Opens Try.prog 55 (Kd.slice 44 (Kd.int .u32)) (fun x => (x.length ≤ maxLen ∧ ∀ x428 ∈ x, (Lit.int .u32 x428).wf = true)) :=
  XOpens.opens_slice Try.underlying55 (by kernel_rfl) opens44
theorem opens5 : XOpens.Opens Try.prog 5 (Kd.int .u8) (fun x => (Lit.int .u8 x).wf = true) :=
  XOpens.opens_int Try.underlying5
theorem opens34 : XOpens.Opens Try.prog 34 (Kd.slice 5 (Kd.int .u8)) (fun x => (x.length ≤ maxLen ∧ ∀ x429 ∈ x, (Lit.int .u8 x429).wf = true)) :=
  XOpens.opens_slice Try.underlying34 (by kernel_rfl) opens5
set_option maxRecDepth 100000 in
theorem lifted (os : Os) (started : os.Started) (H : Type) (enc : TypeId × Value → H) :
    ReturnsInHanded {} Try.checked os 12 .any (Rows.packRowsSpec.pre6 enc Try.prog Try.f12 Rows.packRowsRow.domain false) (Rows.packRowsSpec.post enc Try.prog Try.f12 false true false false) := by
  refine returnsInHanded_of_change_sized (C := Try.checked) own started (by kernel_rfl) Try.func12
    (ChangeSpec.witness6 (enc := enc) (C := Try.checked) false ⟨#[], #[.slice none 0 0, .slice none 0 0], []⟩ 8 (by kernel_rfl) (by kernel_rfl) (by kernel_rfl) (by kernel_rfl)) ?_
  intro W base args ds gs before hval0 hW hcnd hsz0 _
  have hsz : (DataW.weightsEach Try.prog (Try.f12.params.toList ++ Rows.packRowsSpec.plain.varTypes Try.prog) (ds ++ gs)).all (· ≤ reachBytes) = true := hsz0
  have hval : ∀ (j : Nat) t v, Try.f12.params[j]? = some t → args[j]? = some v → Value.okWide Try.prog W .any base t v := hval0
  have hW' := hW
  obtain ⟨p, q, hA0, hV, rfl, hfz, hnd⟩ := hW
  have hA : DataW.TrodAll enc Try.prog W 0 (fun _ => true) true Try.f12.params.toList args.toList ds p := hA0
  rw [Try.params12] at hA hval hsz
  obtain ⟨v0, vs0, d0, ds0, p0, q0, hargs, rfl, rfl, h0, r0⟩ := trodAll_cons hA
  obtain ⟨v1, vs1, d1, ds1, p1, q1, rfl, rfl, rfl, h1, r1⟩ := trodAll_cons r0
  obtain ⟨rfl, rfl, rfl⟩ := trodAll_nil r1
  obtain rfl : args = #[v0, v1] := by cases args; simp_all
  obtain ⟨rfl, rfl⟩ := trodVars_none hV
  have lt0 : ∀ x ∈ p0, x.block < W.heap.size := by obtain ⟨m, hm⟩ := h0; exact DataW.trod_lt m _ _ _ hm
  obtain ⟨a0, len0, cap0, rfl⟩ := okWide_slice Try.underlying55 (hval 0 55 v0 rfl rfl)
  have y0 : len0 * 4 ≤ 140737488351232 := Go.Proofs.YtoilaibpmepecaaW.PrintWords.sized_ints hsz (j := 0) (t := 55) rfl rfl Try.underlying55 Try.underlying44 (by kernel_rfl) (by kernel_rfl) h0
  obtain ⟨x0, hx0, w0⟩ := (by obtain ⟨m, hm⟩ := h0; exact opens55 _ enc W m _ _ hm : ∃ x, (Kd.slice 44 (Kd.int .u32)).K W x [.slice a0 len0 cap0] ∧ ((x.length ≤ maxLen ∧ ∀ x430 ∈ x, (Lit.int .u32 x430).wf = true)))
  obtain ⟨A0, c0, e0, hc0, hr0⟩ := hx0
  simp only [List.cons.injEq, Value.slice.injEq, and_true] at e0
  obtain ⟨rfl, rfl, rfl⟩ := e0
  have lt1 : ∀ x ∈ p1, x.block < W.heap.size := by obtain ⟨m, hm⟩ := h1; exact DataW.trod_lt m _ _ _ hm
  obtain ⟨a1, len1, cap1, rfl⟩ := okWide_slice Try.underlying34 (hval 1 34 v1 rfl rfl)
  have y1 : len1 * 1 ≤ 140737488351232 := Go.Proofs.YtoilaibpmepecaaW.PrintWords.sized_ints hsz (j := 1) (t := 34) rfl rfl Try.underlying34 Try.underlying5 (by kernel_rfl) (by kernel_rfl) h1
  obtain ⟨x1, hx1, w1⟩ := (by obtain ⟨m, hm⟩ := h1; exact opens34 _ enc W m _ _ hm : ∃ x, (Kd.slice 5 (Kd.int .u8)).K W x [.slice a1 len1 cap1] ∧ ((x.length ≤ maxLen ∧ ∀ x431 ∈ x, (Lit.int .u8 x431).wf = true)))
  obtain ⟨A1, c1, e1, hc1, hr1⟩ := hx1
  simp only [List.cons.injEq, Value.slice.injEq, and_true] at e1
  obtain ⟨rfl, rfl, rfl⟩ := e1
  clear hA0 hval0 hsz0 hsz
  obtain ⟨k, h⟩ := Pure.PackRows x0 x1 w0 y0 w1 y1
  refine (caesuralaw05_PackRows.calls k _ _ _ _ _ _ true W hr0 hc0 hr1 hc1 h).mono fun e W' hh => ?_
  obtain ⟨he, bel0⟩ := hh
  have bel : Below W.heap.size W W' := bel0
  subst he
  exact ⟨_, rfl, _, _, _, [], _, [], hW', trodAll_mk1 (shut_bool Try.underlying4 _), (trodAll_cons_mk (Below.trod laidOut (by kernel_rfl) (of_decide_eq_true (by kernel_rfl)) h0 bel lt0) (trodAll_cons_mk (Below.trod laidOut (by kernel_rfl) (of_decide_eq_true (by kernel_rfl)) h1 bel lt1) trodAll_mk0)), rfl, bel.frame _, fun h => by cases h⟩
theorem over : Rows.packRowsRow.holds Try.pinned (OpenSpec.ofChange Rows.packRowsSpec) :=
  OpenClaim.holds_of_wide 12 Try.f12 rfl rfl rfl rfl rfl rfl rfl ⟨rfl, rfl, rfl, rfl, rfl⟩ rfl rfl rfl rfl rfl (by kernel_rfl) Try.func12 (by kernel_rfl)
    (of_decide_eq_true (by kernel_rfl)) (by unfold Func.isWrapper; first | (rw [if_pos (by decide +kernel)]; kernel_rfl) | (rw [if_neg (by decide +kernel)]; exact ⟨rfl, rfl⟩))
    (fun os started H enc _ => lifted os started H enc)
theorem proved : Rows.PackRowsSaid := over
#print axioms proved
end Go.Proofs.Ytoilaibpmepecaa.packRows
namespace Go.Proofs.Ytoilaibpmepecaa
/-- The row, under a short name, for the claim. -/
theorem packRows_holds : Rows.PackRowsSaid := packRows.proved
end Go.Proofs.Ytoilaibpmepecaa
