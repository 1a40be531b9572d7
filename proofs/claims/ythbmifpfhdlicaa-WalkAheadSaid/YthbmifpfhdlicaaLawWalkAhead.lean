/- The law caesura/caesuralaw08.WalkAhead: for every input it returns true, and its arguments read afterwards as before. No condition. -/
import Derived.Test.YthbmifpfhdlicaaRows
import Derived.Test.YthbmifpfhdlicaaJ8d
import Derived.Test.YthbmifpfhdlicaaLZ
import Derived.WalkKit
import Derived.ProofKit
import Derived.OpenShut
import Derived.ShutString
import Derived.ChangeOld
import Derived.SizedLaws
import Derived.Below
namespace Go.Proofs.Ythbmifpfhdlicaa.walkAhead
open Go.V Go.ChangeShapes Go.WideShapes Go.ChangeAt Go.RowKit
open Go.ChangeMaps (open_string shut_string)
set_option linter.unusedVariables false
theorem own : ownKnob Try.prog.godebug = none := by kernel_rfl
theorem laidOut : laidOutB Try.prog = true := by kernel_rfl
theorem opens_3 : OpensV Try.prog 3 pI (fun n => fits n) := by
  have h := openV_i64 Try.underlying3
  exact h
theorem opens_56 : OpensV Try.prog 56 pBand (fun x => (fun n => fits n) (x.1) ∧ (fun n => fits n) (x.2)) := by
  have h := openV_struct (fun x : Int × Int => x) (fun x : Int × Int => x) (fun _ => rfl) Try.underlying56 (by kernel_rfl) (by kernel_rfl) (segV_cons (n1 := 1) opens_3 (by kernel_rfl) (segV_one (n := 1) opens_3 (by kernel_rfl)))
  exact h
theorem opens_22 : OpensV Try.prog 22 sBand (fun l => l.length ≤ maxLen ∧ ∀ x ∈ l, (fun x => (fun n => fits n) (x.1) ∧ (fun n => fits n) (x.2)) x) := by
  have h := openV_slice (sz := 2) Try.underlying22 (by kernel_rfl) (by decide) opens_56
  exact h
theorem opens_57 : OpensV Try.prog 57 sI (fun l => l.length ≤ maxLen ∧ ∀ x ∈ l, (fun n => fits n) x) := by
  have h := openV_slice (sz := 1) Try.underlying57 (by kernel_rfl) (by decide) opens_3
  exact h
theorem opens_23 : OpensV Try.prog 23 sII (fun l => l.length ≤ maxLen ∧ ∀ x ∈ l, (fun l => l.length ≤ maxLen ∧ ∀ x ∈ l, (fun n => fits n) x) x) := by
  have h := openV_slice (sz := 1) Try.underlying23 (by kernel_rfl) (by decide) opens_57
  exact h
theorem opens_4 : OpensV Try.prog 4 pB (fun _ => True) := by
  have h := openV_bool Try.underlying4
  exact h
theorem opens_24 : OpensV Try.prog 24 sB (fun l => l.length ≤ maxLen ∧ ∀ x ∈ l, (fun _ => True) x) := by
  have h := openV_slice (sz := 1) Try.underlying24 (by kernel_rfl) (by decide) opens_4
  exact h
theorem opens_26 : OpensV Try.prog 26 pT (fun t => fits t.classes ∧ (t.bands.length ≤ maxLen ∧ ∀ x ∈ t.bands, fits x.1 ∧ fits x.2) ∧ (t.next.length ≤ maxLen ∧ ∀ x ∈ t.next, x.length ≤ maxLen ∧ ∀ y ∈ x, fits y) ∧ (t.brk.length ≤ maxLen ∧ ∀ x ∈ t.brk, True)) := by
  have h := openV_struct (fun a => (⟨a.1, a.2.1, a.2.2.1, a.2.2.2⟩ : Tab)) (fun t : Tab => (t.classes, t.bands, t.next, t.brk)) (fun _ => rfl) Try.underlying26 (by kernel_rfl) (by kernel_rfl) (segV_cons (n1 := 1) opens_3 (by kernel_rfl) (segV_cons (n1 := 1) opens_22 (by kernel_rfl) (segV_cons (n1 := 1) opens_23 (by kernel_rfl) (segV_one (n := 1) opens_24 (by kernel_rfl)))))
  exact h
theorem opens_67 : OpensV Try.prog 67 (fun x : (List (Int)) × (List (Int)) => PV.agg [sI (x.1), sI (x.2)]) (fun x => (fun l => l.length ≤ maxLen ∧ ∀ x ∈ l, (fun n => fits n) x) (x.1) ∧ (fun l => l.length ≤ maxLen ∧ ∀ x ∈ l, (fun n => fits n) x) (x.2)) := by
  have h := openV_array (fun x : (List (Int)) × (List (Int)) => x) (fun x : (List (Int)) × (List (Int)) => x) (fun _ => rfl) Try.underlying67 (by kernel_rfl) (by kernel_rfl) (segV_cons (n1 := 1) opens_57 (by kernel_rfl) (segV_one (n := 1) opens_57 (by kernel_rfl)))
  exact h
theorem opensZ_57 : OpensZ Try.prog 57 sI (fun l => l.length ≤ maxLen ∧ ∀ x ∈ l, (fun n => fits n) x) (fun l => l.length * 8 ≤ reachBytes) := by
  have h := openZ_slice (sz := 1) (b := 8) Try.underlying57 (by kernel_rfl) (by decide) (by kernel_rfl) opens_3
  exact h
theorem opensZ_67 : OpensZ Try.prog 67 (fun x : (List (Int)) × (List (Int)) => PV.agg [sI (x.1), sI (x.2)]) (fun x => (fun l => l.length ≤ maxLen ∧ ∀ x ∈ l, (fun n => fits n) x) (x.1) ∧ (fun l => l.length ≤ maxLen ∧ ∀ x ∈ l, (fun n => fits n) x) (x.2)) (fun p => p.1.length * 8 ≤ reachBytes ∧ p.2.length * 8 ≤ reachBytes) := by
  have h := openZ_two (e' := 0) Try.underlying67 (by kernel_rfl) opensZ_57 (by kernel_rfl)
  exact h
set_option maxRecDepth 100000 in
theorem lifted (os : Os) (started : os.Started) (H : Type) (enc : TypeId × Value → H) :
    ReturnsInHanded {} Try.checked os 15 .any (Rows.walkAheadSpec.pre6 enc Try.prog Try.f15 Rows.walkAheadRow.domain false) (Rows.walkAheadSpec.post enc Try.prog Try.f15 false true false false) := by
  refine returnsInHanded_of_change_sized (C := Try.checked) own started (by kernel_rfl) Try.func15
    (ChangeSpec.witness6 (enc := enc) (C := Try.checked) false ⟨#[], #[.agg #[.int .i64 0, .slice none 0 0, .slice none 0 0, .slice none 0 0], .slice none 0 0, .agg #[.slice none 0 0, .slice none 0 0]], []⟩ 8 (by kernel_rfl) (by kernel_rfl) (by kernel_rfl) (by kernel_rfl)) ?_
  intro W base args ds gs before hval0 hW hcnd hsz0 _
  have hval : ∀ (j : Nat) t v, Try.f15.params[j]? = some t → args[j]? = some v → Value.okWide Try.prog W .any base t v := hval0
  have hW' := hW
  obtain ⟨p, q, hA0, hV, rfl, hfz, hnd⟩ := hW
  have hA : DataW.TrodAll enc Try.prog W 0 (fun _ => true) true Try.f15.params.toList args.toList ds p := hA0
  rw [Try.params15] at hA hval
  obtain ⟨v0, vs0, d0, ds0, p0, q0, hargs, rfl, rfl, h0, r0⟩ := trodAll_cons hA
  obtain ⟨v1, vs1, d1, ds1, p1, q1, rfl, rfl, rfl, h1, r1⟩ := trodAll_cons r0
  obtain ⟨v2, vs2, d2, ds2, p2, q2, rfl, rfl, rfl, h2, r2⟩ := trodAll_cons r1
  obtain ⟨rfl, rfl, rfl⟩ := trodAll_nil r2
  obtain rfl : args = #[v0, v1, v2] := by cases args; simp_all
  obtain ⟨rfl, rfl⟩ := trodVars_none hV
  have lt0 : ∀ x ∈ p0, x.block < W.heap.size := by obtain ⟨m, hm⟩ := h0; exact DataW.trod_lt m _ _ _ hm
  obtain ⟨cs0, rfl⟩ := okWide_agg (P := Try.prog) (t := 26) (by decide +kernel) (hval 0 26 v0 rfl rfl)
  obtain ⟨x0, hx0, w0⟩ := (by obtain ⟨m, hm⟩ := h0; exact opens_26 _ enc W m _ _ hm : ∃ x, Rep W nobody (pT x) [] _ ∧ (fun t => fits t.classes ∧ (t.bands.length ≤ maxLen ∧ ∀ x ∈ t.bands, fits x.1 ∧ fits x.2) ∧ (t.next.length ≤ maxLen ∧ ∀ x ∈ t.next, x.length ≤ maxLen ∧ ∀ y ∈ x, fits y) ∧ (t.brk.length ≤ maxLen ∧ ∀ x ∈ t.brk, True)) x)
  have k0 : RepV1 W nobody (pT x0) [] _ := RepV1_agg hx0
  have lt1 : ∀ x ∈ p1, x.block < W.heap.size := by obtain ⟨m, hm⟩ := h1; exact DataW.trod_lt m _ _ _ hm
  obtain ⟨a1, l1, c1, rfl⟩ := okWide_slice Try.underlying57 (hval 1 57 v1 rfl rfl)
  obtain ⟨x1, hx1, w1, zz1⟩ := (by obtain ⟨m, hm⟩ := h1; exact opensZ_57 _ enc W m _ _ hm : ∃ x, Rep W nobody (sI x) [] _ ∧ (fun l => l.length ≤ maxLen ∧ ∀ x ∈ l, (fun n => fits n) x) x ∧ ((∀ n ∈ d1.weights Try.prog 57, n ≤ reachBytes) → (fun l => l.length * 8 ≤ reachBytes) x))
  have z1 := zz1 (weigh_arg hsz0 (j := 1) (by kernel_rfl) rfl)
  have k1 : RepV1 W nobody (sI x1) [] _ := RepV1_one hx1 rfl rfl
  have lt2 : ∀ x ∈ p2, x.block < W.heap.size := by obtain ⟨m, hm⟩ := h2; exact DataW.trod_lt m _ _ _ hm
  obtain ⟨cs2, rfl⟩ := okWide_agg (P := Try.prog) (t := 67) (by decide +kernel) (hval 2 67 v2 rfl rfl)
  obtain ⟨x2, hx2, w2, zz2⟩ := (by obtain ⟨m, hm⟩ := h2; exact opensZ_67 _ enc W m _ _ hm : ∃ x, Rep W nobody ((fun x : (List (Int)) × (List (Int)) => PV.agg [sI (x.1), sI (x.2)]) x) [] _ ∧ (fun x => (fun l => l.length ≤ maxLen ∧ ∀ x ∈ l, (fun n => fits n) x) (x.1) ∧ (fun l => l.length ≤ maxLen ∧ ∀ x ∈ l, (fun n => fits n) x) (x.2)) x ∧ ((∀ n ∈ d2.weights Try.prog 67, n ≤ reachBytes) → (fun p => p.1.length * 8 ≤ reachBytes ∧ p.2.length * 8 ≤ reachBytes) x))
  have z2 := zz2 (weigh_arg hsz0 (j := 2) (by kernel_rfl) rfl)
  have k2 : RepV1 W nobody ((fun x : (List (Int)) × (List (Int)) => PV.agg [sI (x.1), sI (x.2)]) x2) [] _ := RepV1_agg hx2
  refine (law_calls (vs := [_, _, _]) (law_law08_WalkAhead ) (RepTs_cons' k0 (RepTs_cons' k1 (RepTs_cons' k2 RepTs_nil'))) (by simp [PV.notTup, PV.noOwn, noOwnL]) globOk_none (law_law08_WalkAhead_eq x0 w0 x1 w1 z1 x2 w2 z2)).mono fun e W' hh => ?_
  obtain ⟨he, bel0⟩ := hh
  have bel : Below W.heap.size W W' := bel0
  subst he
  exact ⟨_, rfl, _, _, _, [], _, [], hW', trodAll_mk1 (shut_bool Try.underlying4 _), (trodAll_cons_mk (Below.trod laidOut (by kernel_rfl) (of_decide_eq_true (by kernel_rfl)) h0 bel lt0) (trodAll_cons_mk (Below.trod laidOut (by kernel_rfl) (of_decide_eq_true (by kernel_rfl)) h1 bel lt1) (trodAll_cons_mk (Below.trod laidOut (by kernel_rfl) (of_decide_eq_true (by kernel_rfl)) h2 bel lt2) trodAll_mk0))), rfl, bel.frame _, fun h => by cases h⟩
theorem over : Rows.walkAheadRow.holds Try.pinned (OpenSpec.ofChange Rows.walkAheadSpec) :=
  OpenClaim.holds_of_wide 15 Try.f15 rfl rfl rfl rfl rfl rfl rfl ⟨rfl, rfl, rfl, rfl, rfl⟩ rfl rfl rfl rfl rfl (by kernel_rfl) Try.func15 (by kernel_rfl)
    (of_decide_eq_true (by kernel_rfl)) (by unfold Func.isWrapper; first | (rw [if_pos (by decide +kernel)]; kernel_rfl) | (rw [if_neg (by decide +kernel)]; exact ⟨rfl, rfl⟩))
    (fun os started H enc _ => lifted os started H enc)
end Go.Proofs.Ythbmifpfhdlicaa.walkAhead
namespace Go.Proofs.Ythbmifpfhdlicaa
/-- The row, under a short name, for the claim. -/
theorem walkAhead_holds : Rows.WalkAheadSaid := walkAhead.over
#print axioms walkAhead_holds
end Go.Proofs.Ythbmifpfhdlicaa
