/- The law caesura/caesuralaw06.TableBack: for every input it returns true, and its arguments read afterwards as before. No condition. -/
import Derived.Test.YtpcbhghgommijaaPTableBack12
import Derived.Test.YtpcbhghgommijaaRows
import Derived.WalkKit
import Derived.ProofKit
import Derived.OpenShut
import Derived.ShutString
import Derived.ChangeOld
import Derived.Below
import Derived.SizedLaws
namespace Go.Proofs.Ytpcbhghgommijaa.tableBack
open Go.ChangeShapes Go.WideShapes Go.ChangeAt Go.RowKit Go.Proofs.Ytpcbhghgommijaa.X Go.Proofs.YtpcbhghgommijaaW.PrintWords
open Go.ChangeMaps (open_string shut_string)
set_option linter.unusedVariables false
theorem own : ownKnob Try.prog.godebug = none := by kernel_rfl
theorem laidOut : laidOutB Try.prog = true := by kernel_rfl
theorem opens3 : XOpens.Opens Try.prog 3 (Kd.int .i64) (fun x => (Lit.int .i64 x).wf = true) :=
  XOpens.opens_int Try.underlying3
theorem opens52 : XOpens.Opens Try.prog 52 k52 (fun x => ((Lit.int .i64 x.f0).wf = true ∧ (Lit.int .i64 x.f1).wf = true)) :=
  XOpens.opens_struct (fun x : S52 => (x.f0, x.f1)) (fun a => (⟨a.1, a.2⟩ : S52)) (fun _ => rfl) Try.underlying52 (by kernel_rfl) (by kernel_rfl) (XOpens.seg_cons opens3 (by kernel_rfl) (XOpens.seg_one opens3 (by kernel_rfl)))
theorem opens22 : XOpens.Opens Try.prog 22 (Kd.slice 52 k52) (fun x => (x.length ≤ maxLen ∧ ∀ x820 ∈ x, ((Lit.int .i64 x820.f0).wf = true ∧ (Lit.int .i64 x820.f1).wf = true))) :=
  XOpens.opens_slice Try.underlying22 (by kernel_rfl) opens52
theorem opens53 : XOpens.Opens Try.prog 53 (Kd.slice 3 (Kd.int .i64)) (fun x => (x.length ≤ maxLen ∧ ∀ x823 ∈ x, (Lit.int .i64 x823).wf = true)) :=
  XOpens.opens_slice Try.underlying53 (by kernel_rfl) opens3
theorem opens23 : XOpens.Opens Try.prog 23 (Kd.slice 53 (Kd.slice 3 (Kd.int .i64))) (fun x => (x.length ≤ maxLen ∧ ∀ x821 ∈ x, (x821.length ≤ maxLen ∧ ∀ x822 ∈ x821, (Lit.int .i64 x822).wf = true))) :=
  XOpens.opens_slice Try.underlying23 (by kernel_rfl) opens53
theorem opens4 : XOpens.Opens Try.prog 4 Kd.bool (fun x => True) :=
  XOpens.opens_bool Try.underlying4
theorem opens24 : XOpens.Opens Try.prog 24 (Kd.slice 4 Kd.bool) (fun x => (x.length ≤ maxLen ∧ ∀ x824 ∈ x, True)) :=
  XOpens.opens_slice Try.underlying24 (by kernel_rfl) opens4
theorem opens26 : XOpens.Opens Try.prog 26 k26 (fun x => ((Lit.int .i64 x.f0).wf = true ∧ ((x.f1.length ≤ maxLen ∧ ∀ x816 ∈ x.f1, ((Lit.int .i64 x816.f0).wf = true ∧ (Lit.int .i64 x816.f1).wf = true)) ∧ ((x.f2.length ≤ maxLen ∧ ∀ x817 ∈ x.f2, (x817.length ≤ maxLen ∧ ∀ x818 ∈ x817, (Lit.int .i64 x818).wf = true)) ∧ (x.f3.length ≤ maxLen ∧ ∀ x819 ∈ x.f3, True))))) :=
  XOpens.opens_struct (fun x : S26 => (x.f0, x.f1, x.f2, x.f3)) (fun a => (⟨a.1, a.2.1, a.2.2.1, a.2.2.2⟩ : S26)) (fun _ => rfl) Try.underlying26 (by kernel_rfl) (by kernel_rfl) (XOpens.seg_cons opens3 (by kernel_rfl) (XOpens.seg_cons opens22 (by kernel_rfl) (XOpens.seg_cons opens23 (by kernel_rfl) (XOpens.seg_one opens24 (by kernel_rfl)))))
theorem opens5 : XOpens.Opens Try.prog 5 (Kd.int .u8) (fun x => (Lit.int .u8 x).wf = true) :=
  XOpens.opens_int Try.underlying5
theorem opens27 : XOpens.Opens Try.prog 27 (Kd.slice 5 (Kd.int .u8)) (fun x => (x.length ≤ maxLen ∧ ∀ x825 ∈ x, (Lit.int .u8 x825).wf = true)) :=
  XOpens.opens_slice Try.underlying27 (by kernel_rfl) opens5
theorem opens43 : XOpens.Opens Try.prog 43 (Kd.int .u16) (fun x => (Lit.int .u16 x).wf = true) :=
  XOpens.opens_int Try.underlying43
theorem opens44 : XOpens.Opens Try.prog 44 k44 (fun x => ((Lit.int .u16 x.f0).wf = true ∧ (Lit.int .u16 x.f1).wf = true)) :=
  XOpens.opens_array (fun x : S44 => (x.f0, x.f1)) (fun a => (⟨a.1, a.2⟩ : S44)) (fun _ => rfl) Try.underlying44 (by kernel_rfl) (by kernel_rfl) (XOpens.seg_cons opens43 (by kernel_rfl) (XOpens.seg_one opens43 (by kernel_rfl)))
set_option maxRecDepth 100000 in
theorem lifted (os : Os) (started : os.Started) (H : Type) (enc : TypeId × Value → H) :
    ReturnsInHanded {} Try.checked os 4 .any (Rows.tableBackSpec.pre6 enc Try.prog Try.f4 Rows.tableBackRow.domain false) (Rows.tableBackSpec.post enc Try.prog Try.f4 false true false false) := by
  refine returnsInHanded_of_change_sized (C := Try.checked) own started (by kernel_rfl) Try.func4
    (ChangeSpec.witness6 (enc := enc) (C := Try.checked) false ⟨#[], #[.agg #[.int .i64 0, .slice none 0 0, .slice none 0 0, .slice none 0 0], .slice none 0 0, .agg #[.int .u16 0, .int .u16 0]], []⟩ 8 (by kernel_rfl) (by kernel_rfl) (by kernel_rfl) (by kernel_rfl)) ?_
  intro W base args ds gs before hval0 hW hcnd hsz0 _
  have hsz : (DataW.weightsEach Try.prog (Try.f4.params.toList ++ Rows.tableBackSpec.plain.varTypes Try.prog) (ds ++ gs)).all (· ≤ reachBytes) = true := hsz0
  have hval : ∀ (j : Nat) t v, Try.f4.params[j]? = some t → args[j]? = some v → Value.okWide Try.prog W .any base t v := hval0
  have hW' := hW
  obtain ⟨p, q, hA0, hV, rfl, hfz, hnd⟩ := hW
  have hA : DataW.TrodAll enc Try.prog W 0 (fun _ => true) true Try.f4.params.toList args.toList ds p := hA0
  rw [Try.params4] at hA hval hsz
  obtain ⟨v0, vs0, d0, ds0, p0, q0, hargs, rfl, rfl, h0, r0⟩ := trodAll_cons hA
  obtain ⟨v1, vs1, d1, ds1, p1, q1, rfl, rfl, rfl, h1, r1⟩ := trodAll_cons r0
  obtain ⟨v2, vs2, d2, ds2, p2, q2, rfl, rfl, rfl, h2, r2⟩ := trodAll_cons r1
  obtain ⟨rfl, rfl, rfl⟩ := trodAll_nil r2
  obtain rfl : args = #[v0, v1, v2] := by cases args; simp_all
  obtain ⟨rfl, rfl⟩ := trodVars_none hV
  have lt0 : ∀ x ∈ p0, x.block < W.heap.size := by obtain ⟨m, hm⟩ := h0; exact DataW.trod_lt m _ _ _ hm
  obtain ⟨cs0, rfl, sz0⟩ := okWide_struct Try.underlying26 (hval 0 26 v0 rfl rfl)
  obtain ⟨x0, hx0, w0⟩ := (by obtain ⟨m, hm⟩ := h0; exact opens26 _ enc W m _ _ hm : ∃ x, k26.K W x cs0.toList ∧ (((Lit.int .i64 x.f0).wf = true ∧ ((x.f1.length ≤ maxLen ∧ ∀ x826 ∈ x.f1, ((Lit.int .i64 x826.f0).wf = true ∧ (Lit.int .i64 x826.f1).wf = true)) ∧ ((x.f2.length ≤ maxLen ∧ ∀ x827 ∈ x.f2, (x827.length ≤ maxLen ∧ ∀ x828 ∈ x827, (Lit.int .i64 x828).wf = true)) ∧ (x.f3.length ≤ maxLen ∧ ∀ x829 ∈ x.f3, True))))))
  obtain ⟨A0_1, c0_1, A0_2, c0_2, A0_3, c0_3, e0, hc0_1, hr0_1, hc0_2, hr0_2, hc0_3, hr0_3⟩ := k26_open hx0
  obtain rfl : cs0 = #[.int .i64 x0.f0, .slice A0_1 (x0.f1).length c0_1, .slice A0_2 (x0.f2).length c0_2, .slice A0_3 (x0.f3).length c0_3] := by cases cs0; simp_all
  have lt1 : ∀ x ∈ p1, x.block < W.heap.size := by obtain ⟨m, hm⟩ := h1; exact DataW.trod_lt m _ _ _ hm
  obtain ⟨a1, len1, cap1, rfl⟩ := okWide_slice Try.underlying27 (hval 1 27 v1 rfl rfl)
  have y1 : len1 * 1 ≤ 140737488351232 := Go.Proofs.YtpcbhghgommijaaW.PrintWords.sized_ints hsz (j := 1) (t := 27) rfl rfl Try.underlying27 Try.underlying5 (by kernel_rfl) (by kernel_rfl) h1
  obtain ⟨x1, hx1, w1⟩ := (by obtain ⟨m, hm⟩ := h1; exact opens27 _ enc W m _ _ hm : ∃ x, (Kd.slice 5 (Kd.int .u8)).K W x [.slice a1 len1 cap1] ∧ ((x.length ≤ maxLen ∧ ∀ x830 ∈ x, (Lit.int .u8 x830).wf = true)))
  obtain ⟨A1, c1, e1, hc1, hr1⟩ := hx1
  simp only [List.cons.injEq, Value.slice.injEq, and_true] at e1
  obtain ⟨rfl, rfl, rfl⟩ := e1
  have lt2 : ∀ x ∈ p2, x.block < W.heap.size := by obtain ⟨m, hm⟩ := h2; exact DataW.trod_lt m _ _ _ hm
  obtain ⟨cs2, rfl, sz2⟩ := XOpens.okWide_array Try.underlying44 (hval 2 44 v2 rfl rfl)
  obtain ⟨x2, hx2, w2⟩ := (by obtain ⟨m, hm⟩ := h2; exact opens44 _ enc W m _ _ hm : ∃ x, k44.K W x cs2.toList ∧ (((Lit.int .u16 x.f0).wf = true ∧ (Lit.int .u16 x.f1).wf = true)))
  have e2 := k44_open hx2
  obtain rfl : cs2 = #[.int .u16 x2.f0, .int .u16 x2.f1] := by cases cs2; simp_all
  clear hA0 hval0 hsz0 hsz
  obtain ⟨k, h⟩ := Pure.TableBack x0 x1 x2 w0 w1 y1 w2
  refine (caesuralaw06_TableBack.calls k _ _ _ _ _ _ _ _ _ _ _ _ _ _ _ true W hr0_1 hc0_1 hr0_2 hc0_2 hr0_3 hc0_3 hr1 hc1 h).mono fun e W' hh => ?_
  obtain ⟨he, bel0⟩ := hh
  have bel : Below W.heap.size W W' := bel0
  subst he
  exact ⟨_, rfl, _, _, _, [], _, [], hW', trodAll_mk1 (shut_bool Try.underlying4 _), (trodAll_cons_mk (Below.trod laidOut (by kernel_rfl) (of_decide_eq_true (by kernel_rfl)) h0 bel lt0) (trodAll_cons_mk (Below.trod laidOut (by kernel_rfl) (of_decide_eq_true (by kernel_rfl)) h1 bel lt1) (trodAll_cons_mk (Below.trod laidOut (by kernel_rfl) (of_decide_eq_true (by kernel_rfl)) h2 bel lt2) trodAll_mk0))), rfl, bel.frame _, fun h => by cases h⟩
theorem over : Rows.tableBackRow.holds Try.pinned (OpenSpec.ofChange Rows.tableBackSpec) :=
  OpenClaim.holds_of_wide 4 Try.f4 rfl rfl rfl rfl rfl rfl rfl ⟨rfl, rfl, rfl, rfl, rfl⟩ rfl rfl rfl rfl rfl (by kernel_rfl) Try.func4 (by kernel_rfl)
    (of_decide_eq_true (by kernel_rfl)) (by unfold Func.isWrapper; first | (rw [if_pos (by decide +kernel)]; kernel_rfl) | (rw [if_neg (by decide +kernel)]; exact ⟨rfl, rfl⟩))
    (fun os started H enc _ => lifted os started H enc)
theorem proved : Rows.TableBackSaid := over
#print axioms proved
end Go.Proofs.Ytpcbhghgommijaa.tableBack
namespace Go.Proofs.Ytpcbhghgommijaa
/-- The row, under a short name, for the claim. -/
theorem tableBack_holds : Rows.TableBackSaid := tableBack.proved
end Go.Proofs.Ytpcbhghgommijaa
