/- A part of the proof of SegmentWhole: contracts of functions, or what these lean on. No condition. -/
import Derived.Test.YtldoffdakikaeaaDoorA1
import Derived.Test.YtldoffdakikaeaaDoorA3
namespace Go.V
open Go.Proofs
set_option maxRecDepth 8000
set_option linter.unusedSimpArgs false
set_option linter.unusedVariables false
def e_slices_Equal_int : (List Int) × (List Int) → List PV := fun (a, b) => [sI a, sI b]
noncomputable def g_slices_Equal_int : List PV → Option (PV × List PV) := spec e_slices_Equal_int (fun (a, b) => a.length < 2 ^ 62 ∧ b.length < 2 ^ 62) fun (a, b) => (pB (decide (a = b)), [])
theorem e_slices_Equal_int_inj (a b : (List Int) × (List Int)) (h : e_slices_Equal_int a = e_slices_Equal_int b) : a = b := by
  obtain ⟨a1, b1⟩ := a; obtain ⟨a2, b2⟩ := b; simp [e_slices_Equal_int, map_pI_inj, map_pB_inj, map_pY_inj, map_pBand_inj, map_sI_inj, Int.natCast_inj, UInt8.toNat_inj, UInt32.toNat_inj] at h; first | exact h | (simp [h]; done) | exact UInt32.toNat_inj.1 (by omega) | exact UInt8.toNat_inj.1 (by omega) | (simp only [Prod.mk.injEq, ← UInt8.toNat_inj, ← UInt32.toNat_inj] at *; omega) | grind
theorem Ok_slices_Equal_int {a : List Int} {b : List Int} {K : PV × List PV → Prop} : Ok (g_slices_Equal_int [sI a, sI b]) K = ((a.length < 2 ^ 62 ∧ b.length < 2 ^ 62) ∧ K (pB (decide (a = b)), [])) := Ok_spec e_slices_Equal_int_inj (a, b)
set_option maxHeartbeats 1000000 in
theorem impl_slices_Equal_int {tbl : Tbl} {G : Nat → Option (List PV)} (hT : Tb tbl G) : Impl Tryd.prog G 87 (g_slices_Equal_int) := by
  refine impl_p (E := En tbl G 26 k_slices_Equal_int []) (c := _) hT mixed Tryd.func87 rfl rfl (fun a => by simp [e_slices_Equal_int, pinned.eq_1, pinned.eq_2, PV.isMut.eq_1, PV.isMut.eq_2]) ?_
  rintro ⟨a, b⟩ hok
  refine ⟨by simp [e_slices_Equal_int], ?_⟩
  replace hok : a.length < 2 ^ 62 ∧ b.length < 2 ^ 62 := hok
  simp -implicitDefEqProofs +contextual (maxSteps := 4000000) [-Int.not_le, -Int.not_lt, -Nat.not_le, -Nat.not_lt, -UInt32.toNat_or, -UInt32.toNat_xor, -UInt32.toNat_and, -UInt8.toNat_or, -UInt8.toNat_xor, -UInt8.toNat_and, -UInt32.toNat_add, -UInt8.toNat_add, -List.map_take, -List.map_drop, ← List.map_take, ← List.map_drop, -List.length_take, -List.length_drop, -List.map_replicate, rep_pY0, rep_pB0, rep_pI0, e_slices_Equal_int.eq_1, Tryd.results87]
  refine ⟨fun h e => h (by rw [e]), fun hab => ?_⟩
  refine loopo (fun i => i ≤ a.length ∧ (a = b ↔ a.drop i = b.drop i))
    (fun i => [(0, .val (sI a), 0, 0), (1, .val (sI b), 0, 0), (12, .val (pI a.length), 0, 0), (13, .val (pI i), 0, 0)])
    (fun i => a.length - i) ?_ (s := 0) ?_ ?_
  rotate_left
  · simp [hab]
  · simp
  rintro i ⟨hi, hp⟩
  simp -implicitDefEqProofs +contextual (maxSteps := 4000000) [-Int.not_le, -Int.not_lt, -Nat.not_le, -Nat.not_lt, -UInt32.toNat_or, -UInt32.toNat_xor, -UInt32.toNat_and, -UInt8.toNat_or, -UInt8.toNat_xor, -UInt8.toNat_and, -UInt32.toNat_add, -UInt8.toNat_add, -List.map_take, -List.map_drop, ← List.map_take, ← List.map_drop, -List.length_take, -List.length_drop, -List.map_replicate, rep_pY0, rep_pB0, rep_pI0, e_slices_Equal_int.eq_1, Tryd.results87]
  (repeat' (first | exact (show drawD _ _ = true by decide +kernel) | exact (show _ = List.range' _ _ from rfl) | with_reducible refine and_imp_self' ?_ ?_ | with_reducible refine And.intro ?_ ?_ | with_reducible refine @Exists.intro Nat _ (i + 1) ?_ | with_reducible refine Exists.intro (show (_ : Nat) < _ by omega) ?_ | intro _)) <;> (try (first | omega | (unfold fits; omega) | assumption | with_reducible rfl | (simp only [inR_iff, inR_not, fits_iff] at *; omega)))
  all_goals first
    | (have hds := drop_eq_step (a := a) (b := b) (i := i) (by omega) (by omega); simp_all [Prod.ext_iff, UInt8.toNat_inj]; done)
    | (have h1 := List.drop_of_length_le (l := a) (i := i) (by omega); have h2 := List.drop_of_length_le (l := b) (i := i) (by omega); simp_all; done)
end Go.V
