/- The law caesura/caesuralaw09.SegmentWhole: for every input it returns true, and its arguments read afterwards as before. No condition. -/
import Derived.Test.YtldoffdakikaeaaDoorRows
import Derived.Test.YtldoffdakikaeaaDoorCards
import Derived.Test.YtldoffdakikaeaaDoorTie
import Derived.Test.YtldoffdakikaeaaDoorJ9c
import Derived.Test.YtldoffdakikaeaaDoorLG
import Derived.WalkKit
import Derived.ProofKit
import Derived.OpenShut
import Derived.ShutString
import Derived.ChangeOld
import Derived.SizedLaws
import Derived.Below
import Derived.Handed
import Derived.LaidLaws
import Derived.Lay
import Derived.LaidOnce
import Derived.MakeChecks
import Derived.SevenTiedAt
namespace Go.Proofs.YtldoffdakikaeaaDoor.segmentWhole
open Go.V Go.ChangeShapes Go.WideShapes Go.ChangeAt Go.RowKit
open Go.ChangeMaps (open_string shut_string)
set_option linter.unusedVariables false
theorem own : ownKnob Tryd.prog.godebug = none := by kernel_rfl
theorem laidOut : laidOutB Tryd.prog = true := by kernel_rfl
theorem opens_3 : OpensV Tryd.prog 3 pI (fun n => fits n) := by
  have h := openV_i64 Tryd.underlying3
  exact h
theorem opens_83 : OpensV Tryd.prog 83 pBand (fun x => (fun n => fits n) (x.1) ∧ (fun n => fits n) (x.2)) := by
  have h := openV_struct (fun x : Int × Int => x) (fun x : Int × Int => x) (fun _ => rfl) Tryd.underlying83 (by kernel_rfl) (by kernel_rfl) (segV_cons (n1 := 1) opens_3 (by kernel_rfl) (segV_one (n := 1) opens_3 (by kernel_rfl)))
  exact h
theorem opens_42 : OpensV Tryd.prog 42 sBand (fun l => l.length ≤ maxLen ∧ ∀ x ∈ l, (fun x => (fun n => fits n) (x.1) ∧ (fun n => fits n) (x.2)) x) := by
  have h := openV_slice (sz := 2) Tryd.underlying42 (by kernel_rfl) (by decide) opens_83
  exact h
theorem opens_22 : OpensV Tryd.prog 22 sI (fun l => l.length ≤ maxLen ∧ ∀ x ∈ l, (fun n => fits n) x) := by
  have h := openV_slice (sz := 1) Tryd.underlying22 (by kernel_rfl) (by decide) opens_3
  exact h
theorem opens_43 : OpensV Tryd.prog 43 sII (fun l => l.length ≤ maxLen ∧ ∀ x ∈ l, (fun l => l.length ≤ maxLen ∧ ∀ x ∈ l, (fun n => fits n) x) x) := by
  have h := openV_slice (sz := 1) Tryd.underlying43 (by kernel_rfl) (by decide) opens_22
  exact h
theorem opens_4 : OpensV Tryd.prog 4 pB (fun _ => True) := by
  have h := openV_bool Tryd.underlying4
  exact h
theorem opens_44 : OpensV Tryd.prog 44 sB (fun l => l.length ≤ maxLen ∧ ∀ x ∈ l, (fun _ => True) x) := by
  have h := openV_slice (sz := 1) Tryd.underlying44 (by kernel_rfl) (by decide) opens_4
  exact h
theorem opens_46 : OpensV Tryd.prog 46 pT (fun t => fits t.classes ∧ (t.bands.length ≤ maxLen ∧ ∀ x ∈ t.bands, fits x.1 ∧ fits x.2) ∧ (t.next.length ≤ maxLen ∧ ∀ x ∈ t.next, x.length ≤ maxLen ∧ ∀ y ∈ x, fits y) ∧ (t.brk.length ≤ maxLen ∧ ∀ x ∈ t.brk, True)) := by
  have h := openV_struct (fun a => (⟨a.1, a.2.1, a.2.2.1, a.2.2.2⟩ : Tab)) (fun t : Tab => (t.classes, t.bands, t.next, t.brk)) (fun _ => rfl) Tryd.underlying46 (by kernel_rfl) (by kernel_rfl) (segV_cons (n1 := 1) opens_3 (by kernel_rfl) (segV_cons (n1 := 1) opens_42 (by kernel_rfl) (segV_cons (n1 := 1) opens_43 (by kernel_rfl) (segV_one (n := 1) opens_44 (by kernel_rfl)))))
  exact h
theorem opens_9 : OpensV Tryd.prog 9 pS (fun l => l.length ≤ maxLen) := by
  have h := openV_str Tryd.underlying9
  exact h
theorem opensZ_9 : OpensZ Tryd.prog 9 pS (fun l => l.length ≤ maxLen) (fun l => l.length ≤ reachBytes) := by
  have h := openZ_str Tryd.underlying9
  exact h
set_option maxRecDepth 100000 in
theorem lifted (os : Os) (started : os.Started) (H : Type) (enc : TypeId × Value → H) :
    ReturnsInHanded {} Tryd.checked os 11 .any (fun w args => (Rows.segmentWholeSpec.pre enc Tryd.prog Tryd.f11 Rows.segmentWholeRow.domain false w args ∧ laidMetH Tryd.prog Rows.segmentWholeRow.laid w) ∧ sizedMet enc Tryd.prog Tryd.f11 (OpenSpec.ofChange Rows.segmentWholeSpec) false w args) (Rows.segmentWholeSpec.post enc Tryd.prog Tryd.f11 false true false false) := by
  refine returnsInHanded_of_change_and (C := Tryd.checked) (X := fun w _ => laidMetH Tryd.prog Rows.segmentWholeRow.laid w) (fun _ _ _ hh h => h.of_heap hh) own started (by kernel_rfl) Tryd.func11
    (ChangeSpec.witness_shaped (enc := enc) (C := Tryd.checked) (X := fun w _ => laidMetH Tryd.prog Rows.segmentWholeRow.laid w) false (World.laidAll Tryd.prog os Rows.segmentWholeRow.laid) #[.agg #[.int .i64 0, .slice none 0 0, .slice none 0 0, .slice none 0 0], .string ⟨#[]⟩] 8 (World.laidAll_os _ _ _) (World.shaped_of_ZipB (by kernel_rfl) (by kernel_rfl)) (by kernel_rfl) (by kernel_rfl) (by kernel_rfl)
      (by rw [MakeChecks.laidMetH_plain _ _ _ (by kernel_rfl)]; exact laidMet_laidAll _ (by kernel_rfl) (by kernel_rfl))) ?_
  intro W base args ds gs before hval0 hW hcnd hsz0 hL _
  have hG : GlobOk gD nobody W := by
    rw [MakeChecks.laidMetH_plain _ _ _ (by kernel_rfl)] at hL
    exact globOk_leads hL
  have hval : ∀ (j : Nat) t v, Tryd.f11.params[j]? = some t → args[j]? = some v → Value.okWide Tryd.prog W .any base t v := hval0
  have hW' := hW
  obtain ⟨p, q, hA0, hV, rfl, hfz, hnd⟩ := hW
  have hA : DataW.TrodAll enc Tryd.prog W 0 (fun _ => true) true Tryd.f11.params.toList args.toList ds p := hA0
  rw [Tryd.params11] at hA hval
  obtain ⟨v0, vs0, d0, ds0, p0, q0, hargs, rfl, rfl, h0, r0⟩ := trodAll_cons hA
  obtain ⟨v1, vs1, d1, ds1, p1, q1, rfl, rfl, rfl, h1, r1⟩ := trodAll_cons r0
  obtain ⟨rfl, rfl, rfl⟩ := trodAll_nil r1
  obtain rfl : args = #[v0, v1] := by cases args; simp_all
  obtain ⟨rfl, rfl⟩ := trodVars_none hV
  have lt0 : ∀ x ∈ p0, x.block < W.heap.size := by obtain ⟨m, hm⟩ := h0; exact DataW.trod_lt m _ _ _ hm
  obtain ⟨cs0, rfl⟩ := okWide_agg (P := Tryd.prog) (t := 46) (by decide +kernel) (hval 0 46 v0 rfl rfl)
  obtain ⟨x0, hx0, w0⟩ := (by obtain ⟨m, hm⟩ := h0; exact opens_46 _ enc W m _ _ hm : ∃ x, Rep W nobody (pT x) [] _ ∧ (fun t => fits t.classes ∧ (t.bands.length ≤ maxLen ∧ ∀ x ∈ t.bands, fits x.1 ∧ fits x.2) ∧ (t.next.length ≤ maxLen ∧ ∀ x ∈ t.next, x.length ≤ maxLen ∧ ∀ y ∈ x, fits y) ∧ (t.brk.length ≤ maxLen ∧ ∀ x ∈ t.brk, True)) x)
  have k0 : RepV1 W nobody (pT x0) [] _ := RepV1_agg hx0
  have lt1 : ∀ x ∈ p1, x.block < W.heap.size := by obtain ⟨m, hm⟩ := h1; exact DataW.trod_lt m _ _ _ hm
  obtain ⟨z1, rfl⟩ := okWide_string Tryd.underlying9 (hval 1 9 v1 rfl rfl)
  obtain ⟨x1, hx1, w1, zz1⟩ := (by obtain ⟨m, hm⟩ := h1; exact opensZ_9 _ enc W m _ _ hm : ∃ x, Rep W nobody (pS x) [] _ ∧ (fun l => l.length ≤ maxLen) x ∧ ((∀ n ∈ d1.weights Tryd.prog 9, n ≤ reachBytes) → (fun l => l.length ≤ reachBytes) x))
  have z1 := zz1 (weigh_arg hsz0 (j := 1) (by kernel_rfl) rfl)
  have k1 : RepV1 W nobody (pS x1) [] _ := RepV1_one hx1 rfl rfl
  refine (law_calls (vs := [_, _]) (law_law09_SegmentWhole ) (RepTs_cons' k0 (RepTs_cons' k1 RepTs_nil')) (by simp [PV.notTup, PV.noOwn, noOwnL]) hG (law_law09_SegmentWhole_eq x0 w0 x1 w1 z1)).mono fun e W' hh => ?_
  obtain ⟨he, bel0⟩ := hh
  have bel : Below W.heap.size W W' := bel0
  subst he
  exact ⟨_, rfl, _, _, _, [], _, [], hW', trodAll_mk1 (shut_bool Tryd.underlying4 _), (trodAll_cons_mk (Below.trod laidOut (by kernel_rfl) (of_decide_eq_true (by kernel_rfl)) h0 bel lt0) (trodAll_cons_mk (Below.trod laidOut (by kernel_rfl) (of_decide_eq_true (by kernel_rfl)) h1 bel lt1) trodAll_mk0)), rfl, bel.frame _, fun h => by cases h⟩
theorem over : Rows.segmentWholeRow.holds Tryd.pinned (OpenSpec.ofChange Rows.segmentWholeSpec) :=
  OpenClaim.holds_of_wide 11 Tryd.f11 rfl rfl rfl rfl rfl rfl rfl ⟨rfl, rfl, rfl, rfl, rfl⟩ rfl rfl rfl rfl rfl (by kernel_rfl) Tryd.func11 (by kernel_rfl)
    (of_decide_eq_true (by kernel_rfl)) (by unfold Func.isWrapper; first | (rw [if_pos (by decide +kernel)]; kernel_rfl) | (rw [if_neg (by decide +kernel)]; exact ⟨rfl, rfl⟩))
    (fun os started H enc _ => lifted os started H enc)
end Go.Proofs.YtldoffdakikaeaaDoor.segmentWhole
namespace Go.Proofs.YtldoffdakikaeaaDoor
set_option maxRecDepth 100000 in
/-- The row's statement, and the card that ties what it lists to the program's text. -/
theorem segmentWhole_holds : Rows.SegmentWholeCardSaid :=
  Claim7.holds_tied_plain_at .later [] [.data] true (true, "450ba948ecbf3a109228e2ad668fca588cf0f085637ca94c1d866a357d2a8a3b") false segmentWhole.over (fun _ h => by cases h) (by kernel_rfl) (fun _ h => by cases h) segmentWhole_row_tie rfl ⟨rfl, rfl⟩ (by kernel_rfl) rfl
    (fun f fn hf hfn => by
      obtain rfl : f = 11 := Option.some.inj ((show Tryd.prog.funcNamed "caesura/caesuralaw09.SegmentWhole" = some 11 by kernel_rfl).symm.trans hf) |>.symm
      obtain rfl : fn = Tryd.f11 := (Option.some.inj (Tryd.func11.symm.trans hfn)).symm
      exact ⟨by kernel_rfl, fun j t ht => by
        rw [Tryd.params11] at ht
        have hm : t ∈ [46, 9] := by simpa using Array.mem_of_getElem? ht
        have hall : ([46, 9].all fun u => !Tryd.prog.wantsStandIn u) = true := by kernel_rfl
        exact (show Tryd.prog.wantsStandIn t = false by simpa using List.all_eq_true.1 hall t hm)⟩)
    (by kernel_rfl)
#print axioms segmentWhole_holds
end Go.Proofs.YtldoffdakikaeaaDoor
