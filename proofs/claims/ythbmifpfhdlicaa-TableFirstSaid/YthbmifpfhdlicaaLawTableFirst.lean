/- The law caesura/caesuralaw06.TableFirst: for every input it returns true, and its arguments read afterwards as before. No condition. -/
import Derived.Test.YthbmifpfhdlicaaRows
import Derived.Test.YthbmifpfhdlicaaJ5
import Derived.Test.YthbmifpfhdlicaaLB
import Derived.WalkKit
import Derived.ProofKit
import Derived.OpenShut
import Derived.ShutString
import Derived.ChangeOld
import Derived.SizedLaws
import Derived.Below
namespace Go.Proofs.Ythbmifpfhdlicaa.tableFirst
open Go.V Go.ChangeShapes Go.WideShapes Go.ChangeAt Go.RowKit
open Go.ChangeMaps (open_string shut_string)
set_option linter.unusedVariables false
theorem own : ownKnob Try.prog.godebug = none := by kernel_rfl
theorem laidOut : laidOutB Try.prog = true := by kernel_rfl
theorem opens_3 : OpensV Try.prog 3 pI (fun n => fits n) := by
  have h := openV_i64 Try.underlying3
  exact h
theorem opens_56 : OpensV Try.prog 56 pBand (fun x => (fun n => fits n) (x.1) ∧ (fun n => fits n) (x.2)) := by
  have h := openV_struct (fun x : Int × Int => x) (fun x : Int × Int => x) (fun _ => rfl) Try.underlying56 (by kernel_rfl) (by kernel_rfl) (segV_cons (n1 := 1) opens_3 (by kernel_rfl) (segV_one (n := 1) opens_3 (by kernel_rfl)))
  exact h
theorem opens_22 : OpensV Try.prog 22 sBand (fun l => l.length ≤ maxLen ∧ ∀ x ∈ l, (fun x => (fun n => fits n) (x.1) ∧ (fun n => fits n) (x.2)) x) := by
  have h := openV_slice (sz := 2) Try.underlying22 (by kernel_rfl) (by decide) opens_56
  exact h
theorem opens_57 : OpensV Try.prog 57 sI (fun l => l.length ≤ maxLen ∧ ∀ x ∈ l, (fun n => fits n) x) := by
  have h := openV_slice (sz := 1) Try.underlying57 (by kernel_rfl) (by decide) opens_3
  exact h
theorem opens_23 : OpensV Try.prog 23 sII (fun l => l.length ≤ maxLen ∧ ∀ x ∈ l, (fun l => l.length ≤ maxLen ∧ ∀ x ∈ l, (fun n => fits n) x) x) := by
  have h := openV_slice (sz := 1) Try.underlying23 (by kernel_rfl) (by decide) opens_57
  exact h
theorem opens_4 : OpensV Try.prog 4 pB (fun _ => True) := by
  have h := openV_bool Try.underlying4
  exact h
theorem opens_24 : OpensV Try.prog 24 sB (fun l => l.length ≤ maxLen ∧ ∀ x ∈ l, (fun _ => True) x) := by
  have h := openV_slice (sz := 1) Try.underlying24 (by kernel_rfl) (by decide) opens_4
  exact h
theorem opens_26 : OpensV Try.prog 26 pT (fun t => fits t.classes ∧ (t.bands.length ≤ maxLen ∧ ∀ x ∈ t.bands, fits x.1 ∧ fits x.2) ∧ (t.next.length ≤ maxLen ∧ ∀ x ∈ t.next, x.length ≤ maxLen ∧ ∀ y ∈ x, fits y) ∧ (t.brk.length ≤ maxLen ∧ ∀ x ∈ t.brk, True)) := by
  have h := openV_struct (fun a => (⟨a.1, a.2.1, a.2.2.1, a.2.2.2⟩ : Tab)) (fun t : Tab => (t.classes, t.bands, t.next, t.brk)) (fun _ => rfl) Try.underlying26 (by kernel_rfl) (by kernel_rfl) (segV_cons (n1 := 1) opens_3 (by kernel_rfl) (segV_cons (n1 := 1) opens_22 (by kernel_rfl) (segV_cons (n1 := 1) opens_23 (by kernel_rfl) (segV_one (n := 1) opens_24 (by kernel_rfl)))))
  exact h
theorem opens_5 : OpensV Try.prog 5 pY (fun _ => True) := by
  have h := openV_byte Try.underlying5
  exact h
theorem opens_50 : OpensV Try.prog 50 (fun x : UInt8 × UInt8 => PV.agg [pY (x.1), pY (x.2)]) (fun x => (fun _ => True) (x.1) ∧ (fun _ => True) (x.2)) := by
  have h := openV_array (fun x : UInt8 × UInt8 => x) (fun x : UInt8 × UInt8 => x) (fun _ => rfl) Try.underlying50 (by kernel_rfl) (by kernel_rfl) (segV_cons (n1 := 1) opens_5 (by kernel_rfl) (segV_one (n := 1) opens_5 (by kernel_rfl)))
  exact h
set_option maxRecDepth 100000 in
theorem lifted (os : Os) (started : os.Started) (H : Type) (enc : TypeId × Value → H) :
    ReturnsInHanded {} Try.checked os 6 .any (Rows.tableFirstSpec.pre6 enc Try.prog Try.f6 Rows.tableFirstRow.domain false) (Rows.tableFirstSpec.post enc Try.prog Try.f6 false true false false) := by
  refine returnsInHanded_of_change_sized (C := Try.checked) own started (by kernel_rfl) Try.func6
    (ChangeSpec.witness6 (enc := enc) (C := Try.checked) false ⟨#[], #[.agg #[.int .i64 0, .slice none 0 0, .slice none 0 0, .slice none 0 0], .agg #[.int .u8 0, .int .u8 0]], []⟩ 8 (by kernel_rfl) (by kernel_rfl) (by kernel_rfl) (by kernel_rfl)) ?_
  intro W base args ds gs before hval0 hW hcnd hsz0 _
  have hval : ∀ (j : Nat) t v, Try.f6.params[j]? = some t → args[j]? = some v → Value.okWide Try.prog W .any base t v := hval0
  have hW' := hW
  obtain ⟨p, q, hA0, hV, rfl, hfz, hnd⟩ := hW
  have hA : DataW.TrodAll enc Try.prog W 0 (fun _ => true) true Try.f6.params.toList args.toList ds p := hA0
  rw [Try.params6] at hA hval
  obtain ⟨v0, vs0, d0, ds0, p0, q0, hargs, rfl, rfl, h0, r0⟩ := trodAll_cons hA
  obtain ⟨v1, vs1, d1, ds1, p1, q1, rfl, rfl, rfl, h1, r1⟩ := trodAll_cons r0
  obtain ⟨rfl, rfl, rfl⟩ := trodAll_nil r1
  obtain rfl : args = #[v0, v1] := by cases args; simp_all
  obtain ⟨rfl, rfl⟩ := trodVars_none hV
  have lt0 : ∀ x ∈ p0, x.block < W.heap.size := by obtain ⟨m, hm⟩ := h0; exact DataW.trod_lt m _ _ _ hm
  obtain ⟨cs0, rfl⟩ := okWide_agg (P := Try.prog) (t := 26) (by decide +kernel) (hval 0 26 v0 rfl rfl)
  obtain ⟨x0, hx0, w0⟩ := (by obtain ⟨m, hm⟩ := h0; exact opens_26 _ enc W m _ _ hm : ∃ x, Rep W nobody (pT x) [] _ ∧ (fun t => fits t.classes ∧ (t.bands.length ≤ maxLen ∧ ∀ x ∈ t.bands, fits x.1 ∧ fits x.2) ∧ (t.next.length ≤ maxLen ∧ ∀ x ∈ t.next, x.length ≤ maxLen ∧ ∀ y ∈ x, fits y) ∧ (t.brk.length ≤ maxLen ∧ ∀ x ∈ t.brk, True)) x)
  have k0 : RepV1 W nobody (pT x0) [] _ := RepV1_agg hx0
  have lt1 : ∀ x ∈ p1, x.block < W.heap.size := by obtain ⟨m, hm⟩ := h1; exact DataW.trod_lt m _ _ _ hm
  obtain ⟨cs1, rfl⟩ := okWide_agg (P := Try.prog) (t := 50) (by decide +kernel) (hval 1 50 v1 rfl rfl)
  obtain ⟨x1, hx1, w1⟩ := (by obtain ⟨m, hm⟩ := h1; exact opens_50 _ enc W m _ _ hm : ∃ x, Rep W nobody ((fun x : UInt8 × UInt8 => PV.agg [pY (x.1), pY (x.2)]) x) [] _ ∧ (fun x => (fun _ => True) (x.1) ∧ (fun _ => True) (x.2)) x)
  have k1 : RepV1 W nobody ((fun x : UInt8 × UInt8 => PV.agg [pY (x.1), pY (x.2)]) x1) [] _ := RepV1_agg hx1
  refine (law_calls (vs := [_, _]) (law_law06_TableFirst ) (RepTs_cons' k0 (RepTs_cons' k1 RepTs_nil')) (by simp [PV.notTup, PV.noOwn, noOwnL]) globOk_none (law_law06_TableFirst_eq x0 w0 x1 w1)).mono fun e W' hh => ?_
  obtain ⟨he, bel0⟩ := hh
  have bel : Below W.heap.size W W' := bel0
  subst he
  exact ⟨_, rfl, _, _, _, [], _, [], hW', trodAll_mk1 (shut_bool Try.underlying4 _), (trodAll_cons_mk (Below.trod laidOut (by kernel_rfl) (of_decide_eq_true (by kernel_rfl)) h0 bel lt0) (trodAll_cons_mk (Below.trod laidOut (by kernel_rfl) (of_decide_eq_true (by kernel_rfl)) h1 bel lt1) trodAll_mk0)), rfl, bel.frame _, fun h => by cases h⟩
theorem over : Rows.tableFirstRow.holds Try.pinned (OpenSpec.ofChange Rows.tableFirstSpec) :=
  OpenClaim.holds_of_wide 6 Try.f6 rfl rfl rfl rfl rfl rfl rfl ⟨rfl, rfl, rfl, rfl, rfl⟩ rfl rfl rfl rfl rfl (by kernel_rfl) Try.func6 (by kernel_rfl)
    (of_decide_eq_true (by kernel_rfl)) (by unfold Func.isWrapper; first | (rw [if_pos (by decide +kernel)]; kernel_rfl) | (rw [if_neg (by decide +kernel)]; exact ⟨rfl, rfl⟩))
    (fun os started H enc _ => lifted os started H enc)
end Go.Proofs.Ythbmifpfhdlicaa.tableFirst
namespace Go.Proofs.Ythbmifpfhdlicaa
/-- The row, under a short name, for the claim. -/
theorem tableFirst_holds : Rows.TableFirstSaid := tableFirst.over
#print axioms tableFirst_holds
end Go.Proofs.Ythbmifpfhdlicaa
