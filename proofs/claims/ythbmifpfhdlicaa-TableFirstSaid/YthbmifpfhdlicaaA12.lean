/- A part of the proof of TableFirst: contracts of functions, or what these lean on. No condition. -/
import Derived.Test.YthbmifpfhdlicaaA1
namespace Go.V
open Go.Proofs
set_option maxRecDepth 8000
set_option linter.unusedSimpArgs false
set_option linter.unusedVariables false
def e_ref05_Sum : (List UInt8) → List PV := fun l => [sY l]
noncomputable def g_ref05_Sum : List PV → Option (PV × List PV) := spec e_ref05_Sum (fun l => l.length < 2 ^ 62) fun l => (pW (sumL l), [])
theorem e_ref05_Sum_inj (a b : (List UInt8)) (h : e_ref05_Sum a = e_ref05_Sum b) : a = b := by
  simp [e_ref05_Sum, map_pI_inj, map_pB_inj, map_pY_inj, map_pBand_inj, map_sI_inj, Int.natCast_inj, UInt8.toNat_inj, UInt32.toNat_inj] at h; first | exact h | (simp [h]; done) | exact UInt32.toNat_inj.1 (by omega) | exact UInt8.toNat_inj.1 (by omega) | (simp only [Prod.mk.injEq, ← UInt8.toNat_inj, ← UInt32.toNat_inj] at *; omega) | grind
theorem Ok_ref05_Sum {l : List UInt8} {K : PV × List PV → Prop} : Ok (g_ref05_Sum [sY l]) K = ((l.length < 2 ^ 62) ∧ K (pW (sumL l), [])) := Ok_spec e_ref05_Sum_inj l
set_option maxHeartbeats 1000000 in
theorem impl_ref05_Sum {tbl : Tbl} {G : Nat → Option (List PV)} (hT : Tb tbl G) : Impl Try.prog G 32 (g_ref05_Sum) := by
  refine impl_p (E := En tbl G 26 k_ref05_Sum []) (c := _) hT mixed Try.func32 rfl rfl (fun a => by simp [e_ref05_Sum, pinned.eq_1, pinned.eq_2, PV.isMut.eq_1, PV.isMut.eq_2]) ?_
  rintro l hok
  refine ⟨by simp [e_ref05_Sum], ?_⟩
  replace hok : l.length < 2 ^ 62 := hok
  simp -implicitDefEqProofs +contextual (maxSteps := 4000000) [-Int.not_le, -Int.not_lt, -Nat.not_le, -Nat.not_lt, -UInt32.toNat_or, -UInt32.toNat_xor, -UInt32.toNat_and, -UInt8.toNat_or, -UInt8.toNat_xor, -UInt8.toNat_and, -UInt32.toNat_add, -UInt8.toNat_add, -List.map_take, -List.map_drop, ← List.map_take, ← List.map_drop, -List.length_take, -List.length_drop, -List.map_replicate, rep_pY0, rep_pB0, rep_pI0, e_ref05_Sum.eq_1, Try.results32, by32_addk]
  refine loopo (fun i => i ≤ l.length)
    (fun i => [(0, .val (sY l), 0, 0), (3, .val (pW (sumL (l.take i))), 0, 0), (4, .val (pI i), 0, 0)])
    (fun i => l.length - i) ?_ (s := 0) rfl (by simp)
  intro i hi
  simp -implicitDefEqProofs +contextual (maxSteps := 4000000) [-Int.not_le, -Int.not_lt, -Nat.not_le, -Nat.not_lt, -UInt32.toNat_or, -UInt32.toNat_xor, -UInt32.toNat_and, -UInt8.toNat_or, -UInt8.toNat_xor, -UInt8.toNat_and, -UInt32.toNat_add, -UInt8.toNat_add, -List.map_take, -List.map_drop, ← List.map_take, ← List.map_drop, -List.length_take, -List.length_drop, -List.map_replicate, rep_pY0, rep_pB0, rep_pI0, e_ref05_Sum.eq_1, Try.results32, by32_addk, rot5_int]
  (repeat' (first | exact (show drawD _ _ = true by decide +kernel) | exact (show _ = List.range' _ _ from rfl) | with_reducible refine and_imp_self' ?_ ?_ | with_reducible refine And.intro ?_ ?_ | with_reducible refine @Exists.intro Nat _ (i + 1) ?_ | with_reducible refine Exists.intro (show (_ : Nat) < _ by omega) ?_ | intro _)) <;> (try (first | omega | (unfold fits; omega) | assumption | with_reducible rfl | (simp only [inR_iff, inR_not, fits_iff] at *; omega)))
  · rw [sumL, sumL, foldl_take ‹_›]; rfl
  · rw [List.take_of_length_le (by omega)]

end Go.V
