/- The law caesura/caesuralaw05.PackTells: for every input it returns true, and its arguments read afterwards as before. No condition. -/
import Derived.Test.YtoilaibpmepecaaRows
import Derived.Test.YtoilaibpmepecaaXx7
import Derived.Test.YtoilaibpmepecaaPurePackTells
import Derived.Test.YtoilaibpmepecaaXOpens
import Derived.WalkKit
import Derived.ProofKit
import Derived.OpenShut
import Derived.ShutString
import Derived.ChangeOld
import Derived.Below
import Derived.SizedLaws
import Derived.Test.YtoilaibpmepecaaWSized
namespace Go.Proofs.Ytoilaibpmepecaa.packTells
open Go.ChangeShapes Go.WideShapes Go.ChangeAt Go.RowKit Go.Proofs.Ytoilaibpmepecaa.X Go.Proofs.YtoilaibpmepecaaW.PrintWords
open Go.ChangeMaps (open_string shut_string)
set_option linter.unusedVariables false
theorem own : ownKnob Try.prog.godebug = none := by kernel_rfl
theorem laidOut : laidOutB Try.prog = true := by kernel_rfl
theorem opens5 : XOpens.Opens Try.prog 5 (Kd.int .u8) (fun x => (Lit.int .u8 x).wf = true) :=
  XOpens.opens_int Try.underlying5
theorem opens34 : XOpens.Opens Try.prog 34 (Kd.slice 5 (Kd.int .u8)) (fun x => (x.length ≤ maxLen ∧ ∀ x416 ∈ x, (Lit.int .u8 x416).wf = true)) :=
  XOpens.opens_slice Try.underlying34 (by kernel_rfl) opens5
theorem opens3 : XOpens.Opens Try.prog 3 (Kd.int .i64) (fun x => (Lit.int .i64 x).wf = true) :=
  XOpens.opens_int Try.underlying3
theorem opens35 : XOpens.Opens Try.prog 35 k35 (fun x => ((Lit.int .i64 x.f0).wf = true ∧ ((Lit.int .i64 x.f1).wf = true ∧ (Lit.int .i64 x.f2).wf = true))) :=
  XOpens.opens_array (fun x : S35 => (x.f0, x.f1, x.f2)) (fun a => (⟨a.1, a.2.1, a.2.2⟩ : S35)) (fun _ => rfl) Try.underlying35 (by kernel_rfl) (by kernel_rfl) (XOpens.seg_cons opens3 (by kernel_rfl) (XOpens.seg_cons opens3 (by kernel_rfl) (XOpens.seg_one opens3 (by kernel_rfl))))
theorem opens4 : XOpens.Opens Try.prog 4 Kd.bool (fun x => True) :=
  XOpens.opens_bool Try.underlying4
theorem opens36 : XOpens.Opens Try.prog 36 (Kd.slice 4 Kd.bool) (fun x => (x.length ≤ maxLen ∧ ∀ x417 ∈ x, True)) :=
  XOpens.opens_slice Try.underlying36 (by kernel_rfl) opens4
set_option maxRecDepth 100000 in
theorem lifted (os : Os) (started : os.Started) (H : Type) (enc : TypeId × Value → H) :
    ReturnsInHanded {} Try.checked os 8 .any (Rows.packTellsSpec.pre6 enc Try.prog Try.f8 Rows.packTellsRow.domain false) (Rows.packTellsSpec.post enc Try.prog Try.f8 false true false false) := by
  refine returnsInHanded_of_change_sized (C := Try.checked) own started (by kernel_rfl) Try.func8
    (ChangeSpec.witness6 (enc := enc) (C := Try.checked) false ⟨#[], #[.slice none 0 0, .agg #[.int .i64 0, .int .i64 0, .int .i64 0], .slice none 0 0], []⟩ 8 (by kernel_rfl) (by kernel_rfl) (by kernel_rfl) (by kernel_rfl)) ?_
  intro W base args ds gs before hval0 hW hcnd hsz0 _
  have hsz : (DataW.weightsEach Try.prog (Try.f8.params.toList ++ Rows.packTellsSpec.plain.varTypes Try.prog) (ds ++ gs)).all (· ≤ reachBytes) = true := hsz0
  have hval : ∀ (j : Nat) t v, Try.f8.params[j]? = some t → args[j]? = some v → Value.okWide Try.prog W .any base t v := hval0
  have hW' := hW
  obtain ⟨p, q, hA0, hV, rfl, hfz, hnd⟩ := hW
  have hA : DataW.TrodAll enc Try.prog W 0 (fun _ => true) true Try.f8.params.toList args.toList ds p := hA0
  rw [Try.params8] at hA hval hsz
  obtain ⟨v0, vs0, d0, ds0, p0, q0, hargs, rfl, rfl, h0, r0⟩ := trodAll_cons hA
  obtain ⟨v1, vs1, d1, ds1, p1, q1, rfl, rfl, rfl, h1, r1⟩ := trodAll_cons r0
  obtain ⟨v2, vs2, d2, ds2, p2, q2, rfl, rfl, rfl, h2, r2⟩ := trodAll_cons r1
  obtain ⟨rfl, rfl, rfl⟩ := trodAll_nil r2
  obtain rfl : args = #[v0, v1, v2] := by cases args; simp_all
  obtain ⟨rfl, rfl⟩ := trodVars_none hV
  have lt0 : ∀ x ∈ p0, x.block < W.heap.size := by obtain ⟨m, hm⟩ := h0; exact DataW.trod_lt m _ _ _ hm
  obtain ⟨a0, len0, cap0, rfl⟩ := okWide_slice Try.underlying34 (hval 0 34 v0 rfl rfl)
  have y0 : len0 * 1 ≤ 140737488351232 := Go.Proofs.YtoilaibpmepecaaW.PrintWords.sized_ints hsz (j := 0) (t := 34) rfl rfl Try.underlying34 Try.underlying5 (by kernel_rfl) (by kernel_rfl) h0
  obtain ⟨x0, hx0, w0⟩ := (by obtain ⟨m, hm⟩ := h0; exact opens34 _ enc W m _ _ hm : ∃ x, (Kd.slice 5 (Kd.int .u8)).K W x [.slice a0 len0 cap0] ∧ ((x.length ≤ maxLen ∧ ∀ x418 ∈ x, (Lit.int .u8 x418).wf = true)))
  obtain ⟨A0, c0, e0, hc0, hr0⟩ := hx0
  simp only [List.cons.injEq, Value.slice.injEq, and_true] at e0
  obtain ⟨rfl, rfl, rfl⟩ := e0
  have lt1 : ∀ x ∈ p1, x.block < W.heap.size := by obtain ⟨m, hm⟩ := h1; exact DataW.trod_lt m _ _ _ hm
  obtain ⟨cs1, rfl, sz1⟩ := XOpens.okWide_array Try.underlying35 (hval 1 35 v1 rfl rfl)
  obtain ⟨x1, hx1, w1⟩ := (by obtain ⟨m, hm⟩ := h1; exact opens35 _ enc W m _ _ hm : ∃ x, k35.K W x cs1.toList ∧ (((Lit.int .i64 x.f0).wf = true ∧ ((Lit.int .i64 x.f1).wf = true ∧ (Lit.int .i64 x.f2).wf = true))))
  have e1 := k35_open hx1
  obtain rfl : cs1 = #[.int .i64 x1.f0, .int .i64 x1.f1, .int .i64 x1.f2] := by cases cs1; simp_all
  have lt2 : ∀ x ∈ p2, x.block < W.heap.size := by obtain ⟨m, hm⟩ := h2; exact DataW.trod_lt m _ _ _ hm
  obtain ⟨a2, len2, cap2, rfl⟩ := okWide_slice Try.underlying36 (hval 2 36 v2 rfl rfl)
  obtain ⟨x2, hx2, w2⟩ := (by obtain ⟨m, hm⟩ := h2; exact opens36 _ enc W m _ _ hm : ∃ x, (Kd.slice 4 Kd.bool).K W x [.slice a2 len2 cap2] ∧ ((x.length ≤ maxLen ∧ ∀ x419 ∈ x, True)))
  obtain ⟨A2, c2, e2, hc2, hr2⟩ := hx2
  simp only [List.cons.injEq, Value.slice.injEq, and_true] at e2
  obtain ⟨rfl, rfl, rfl⟩ := e2
  clear hA0 hval0 hsz0 hsz
  obtain ⟨k, h⟩ := Pure.PackTells x0 x1 x2 w0 y0 w1 w2
  refine (caesuralaw05_PackTells.calls k _ _ _ _ _ _ _ _ _ true W hr0 hc0 hr2 hc2 h).mono fun e W' hh => ?_
  obtain ⟨he, bel0⟩ := hh
  have bel : Below W.heap.size W W' := bel0
  subst he
  exact ⟨_, rfl, _, _, _, [], _, [], hW', trodAll_mk1 (shut_bool Try.underlying4 _), (trodAll_cons_mk (Below.trod laidOut (by kernel_rfl) (of_decide_eq_true (by kernel_rfl)) h0 bel lt0) (trodAll_cons_mk (Below.trod laidOut (by kernel_rfl) (of_decide_eq_true (by kernel_rfl)) h1 bel lt1) (trodAll_cons_mk (Below.trod laidOut (by kernel_rfl) (of_decide_eq_true (by kernel_rfl)) h2 bel lt2) trodAll_mk0))), rfl, bel.frame _, fun h => by cases h⟩
theorem over : Rows.packTellsRow.holds Try.pinned (OpenSpec.ofChange Rows.packTellsSpec) :=
  OpenClaim.holds_of_wide 8 Try.f8 rfl rfl rfl rfl rfl rfl rfl ⟨rfl, rfl, rfl, rfl, rfl⟩ rfl rfl rfl rfl rfl (by kernel_rfl) Try.func8 (by kernel_rfl)
    (of_decide_eq_true (by kernel_rfl)) (by unfold Func.isWrapper; first | (rw [if_pos (by decide +kernel)]; kernel_rfl) | (rw [if_neg (by decide +kernel)]; exact ⟨rfl, rfl⟩))
    (fun os started H enc _ => lifted os started H enc)
theorem proved : Rows.PackTellsSaid := over
#print axioms proved
end Go.Proofs.Ytoilaibpmepecaa.packTells
namespace Go.Proofs.Ytoilaibpmepecaa
/-- The row, under a short name, for the claim. -/
theorem packTells_holds : Rows.PackTellsSaid := packTells.proved
end Go.Proofs.Ytoilaibpmepecaa
