/- A part of the proof of TableFirst: contracts of functions, or what these lean on. No condition. -/
import Derived.Test.YthbmifpfhdlicaaA1
import Derived.Test.YthbmifpfhdlicaaA3
namespace Go.V
open Go.Proofs
set_option maxRecDepth 8000
set_option linter.unusedSimpArgs false
set_option linter.unusedVariables false
def e_keep_OwnLists : (List (List Int)) → List PV := fun l => [sII l]
noncomputable def g_keep_OwnLists : List PV → Option (PV × List PV) := spec e_keep_OwnLists (fun l => l.length < 2 ^ 40 ∧ ∀ x ∈ l, x.length < 2 ^ 40) fun l => (tII l, [])
theorem e_keep_OwnLists_inj (a b : (List (List Int))) (h : e_keep_OwnLists a = e_keep_OwnLists b) : a = b := by
  simp [e_keep_OwnLists, map_pI_inj, map_pB_inj, map_pY_inj, map_pBand_inj, map_sI_inj, Int.natCast_inj, UInt8.toNat_inj, UInt32.toNat_inj] at h; first | exact h | (simp [h]; done) | exact UInt32.toNat_inj.1 (by omega) | exact UInt8.toNat_inj.1 (by omega) | (simp only [Prod.mk.injEq, ← UInt8.toNat_inj, ← UInt32.toNat_inj] at *; omega) | grind
theorem Ok_keep_OwnLists {l : List (List Int)} {K : PV × List PV → Prop} : Ok (g_keep_OwnLists [sII l]) K = ((l.length < 2 ^ 40 ∧ ∀ x ∈ l, x.length < 2 ^ 40) ∧ K (tII l, [])) := Ok_spec e_keep_OwnLists_inj l
set_option maxHeartbeats 1000000 in
theorem impl_keep_OwnLists {tbl : Tbl} {G : Nat → Option (List PV)} (hT : Tb tbl G) : Impl Try.prog G 62 (g_keep_OwnLists) := by
  refine impl_p (E := En tbl G 21 k_keep_OwnLists []) (c := _) hT mixed Try.func62 rfl rfl (fun a => by simp [e_keep_OwnLists, pinned.eq_1, pinned.eq_2, PV.isMut.eq_1, PV.isMut.eq_2]) ?_
  rintro l hok
  refine ⟨by simp [e_keep_OwnLists], ?_⟩
  replace hok : l.length < 2 ^ 40 ∧ ∀ x ∈ l, x.length < 2 ^ 40 := hok
  simp -implicitDefEqProofs +contextual (maxSteps := 4000000) [-Int.not_le, -Int.not_lt, -Nat.not_le, -Nat.not_lt, -UInt32.toNat_or, -UInt32.toNat_xor, -UInt32.toNat_and, -UInt8.toNat_or, -UInt8.toNat_xor, -UInt8.toNat_and, -UInt32.toNat_add, -UInt8.toNat_add, -List.map_take, -List.map_drop, ← List.map_take, ← List.map_drop, -List.length_take, -List.length_drop, -List.map_replicate, rep_pY0, rep_pB0, rep_pI0, e_keep_OwnLists.eq_1, Try.results62]
  refine loopo (fun i => i ≤ l.length)
    (fun i => [(0, .val (sII l), 0, 0), (3, .val (tII (l.take i)), 0, 0), (4, .val (pI i), 0, 0)])
    (fun i => l.length - i) ?_ (s := 0) ?_ ?_
  rotate_left
  · simp
  · simp
  intro i hi
  simp -implicitDefEqProofs +contextual (maxSteps := 4000000) [-Int.not_le, -Int.not_lt, -Nat.not_le, -Nat.not_lt, -UInt32.toNat_or, -UInt32.toNat_xor, -UInt32.toNat_and, -UInt8.toNat_or, -UInt8.toNat_xor, -UInt8.toNat_and, -UInt32.toNat_add, -UInt8.toNat_add, -List.map_take, -List.map_drop, ← List.map_take, ← List.map_drop, -List.length_take, -List.length_drop, -List.map_replicate, rep_pY0, rep_pB0, rep_pI0, e_keep_OwnLists.eq_1, Try.results62]
  (repeat' (first | exact (show drawD _ _ = true by decide +kernel) | exact (show _ = List.range' _ _ from rfl) | with_reducible refine and_imp_self' ?_ ?_ | with_reducible refine And.intro ?_ ?_ | with_reducible refine @Exists.intro Nat _ (i + 1) ?_ | with_reducible refine Exists.intro (show (_ : Nat) < _ by omega) ?_ | intro _)) <;> (try (first | omega | (unfold fits; omega) | assumption | with_reducible rfl | (simp only [inR_iff, inR_not, fits_iff] at *; omega)))
  · have := hok.2 _ (List.getElem_mem ‹_›); omega
  · rw [List.length_take]; omega
  · rw [map_take_succ ‹_›]
  · rw [List.take_of_length_le (by omega)]
def e_keep_OwnTable : Tab → List PV := fun t => [pT t]
noncomputable def g_keep_OwnTable : List PV → Option (PV × List PV) := spec e_keep_OwnTable (fun t => small t) fun t => (oT t, [])
theorem e_keep_OwnTable_inj (a b : Tab) (h : e_keep_OwnTable a = e_keep_OwnTable b) : a = b := by
  obtain ⟨t1a, t1b, t1c, t1d⟩ := a; obtain ⟨t2a, t2b, t2c, t2d⟩ := b; simp [e_keep_OwnTable, map_pI_inj, map_pB_inj, map_pY_inj, map_pBand_inj, map_sI_inj, Int.natCast_inj, UInt8.toNat_inj, UInt32.toNat_inj] at h; first | exact h | (simp [h]; done) | exact UInt32.toNat_inj.1 (by omega) | exact UInt8.toNat_inj.1 (by omega) | (simp only [Prod.mk.injEq, ← UInt8.toNat_inj, ← UInt32.toNat_inj] at *; omega) | grind
theorem Ok_keep_OwnTable {t : Tab} {K : PV × List PV → Prop} : Ok (g_keep_OwnTable [pT t]) K = ((small t) ∧ K (oT t, [])) := Ok_spec e_keep_OwnTable_inj t
set_option maxHeartbeats 4000000 in
theorem impl_keep_OwnTable {tbl : Tbl} {G : Nat → Option (List PV)} (hT : Tb tbl G) (h_keep_OwnLists : tbl 62 = g_keep_OwnLists) : Impl Try.prog G 26 (g_keep_OwnTable) := by
  refine impl_p (E := En tbl G 17 k_keep_OwnTable []) (c := _) hT mixed Try.func26 rfl rfl (fun a => by simp [e_keep_OwnTable, pinned.eq_1, pinned.eq_2, PV.isMut.eq_1, PV.isMut.eq_2]) ?_
  rintro t hok
  refine ⟨by simp [e_keep_OwnTable], ?_⟩
  replace hok : small t := hok
  unfold small at hok
  simp -implicitDefEqProofs +contextual (maxSteps := 4000000) [-Int.not_le, -Int.not_lt, -Nat.not_le, -Nat.not_lt, -UInt32.toNat_or, -UInt32.toNat_xor, -UInt32.toNat_and, -UInt8.toNat_or, -UInt8.toNat_xor, -UInt8.toNat_and, -UInt32.toNat_add, -UInt8.toNat_add, -List.map_take, -List.map_drop, ← List.map_take, ← List.map_drop, -List.length_take, -List.length_drop, -List.map_replicate, rep_pY0, rep_pB0, rep_pI0, e_keep_OwnTable.eq_1, Try.results26, h_keep_OwnLists, Ok_keep_OwnLists]
  (repeat' (first | exact (show drawD _ _ = true by decide +kernel) | exact (show _ = List.range' _ _ from rfl) | with_reducible refine and_imp_self' ?_ ?_ | with_reducible refine And.intro ?_ ?_ | with_reducible refine @Exists.intro Nat _ (i + 1) ?_ | with_reducible refine Exists.intro (show (_ : Nat) < _ by omega) ?_ | intro _)) <;> (try (first | omega | (unfold fits; omega) | assumption | with_reducible rfl | (simp only [inR_iff, inR_not, fits_iff] at *; omega)))
  all_goals exact hok.2 _ ‹_›

end Go.V
