/- A part of the proof of ValidTells: contracts of functions, or what these lean on. No condition. -/
import Derived.Test.YthbmifpfhdlicaaA25
import Derived.Test.YthbmifpfhdlicaaA5
import Derived.Test.YthbmifpfhdlicaaA6
import Derived.Test.YthbmifpfhdlicaaA10
import Derived.Test.YthbmifpfhdlicaaW6
import Derived.Test.YthbmifpfhdlicaaP8
namespace Go.V
open Go.Proofs
set_option maxRecDepth 8000
set_option linter.unusedSimpArgs false
set_option linter.unusedVariables false
theorem bytT_small {b : List UInt8} : small (bytT b) := by
  unfold bytT; split
  · exact dec_small
  · exact ⟨⟨by decide, by decide, by decide⟩, by simp⟩
def e_law07_ValidTells : Tab × (List UInt8) × Int × Int → List PV := fun (t, b, n, m) => [pT t, sY b, .agg [pI n, pI m]]
noncomputable def g_law07_ValidTells : List PV → Option (PV × List PV) := spec e_law07_ValidTells (fun (t, b, n, m) => (t.bands.length < 2 ^ 63 ∧ t.next.length < 2 ^ 63 ∧ t.brk.length < 2 ^ 63) ∧ b.length < 2 ^ 63) fun (t, b, n, m) => (pB true, [])
theorem e_law07_ValidTells_inj (a b : Tab × (List UInt8) × Int × Int) (h : e_law07_ValidTells a = e_law07_ValidTells b) : a = b := by
  obtain ⟨⟨t1a, t1b, t1c, t1d⟩, b1, n1, m1⟩ := a; obtain ⟨⟨t2a, t2b, t2c, t2d⟩, b2, n2, m2⟩ := b; simp [e_law07_ValidTells, map_pI_inj, map_pB_inj, map_pY_inj, map_pBand_inj, map_sI_inj, Int.natCast_inj, UInt8.toNat_inj, UInt32.toNat_inj] at h; first | exact h | (simp [h]; done) | exact UInt32.toNat_inj.1 (by omega) | exact UInt8.toNat_inj.1 (by omega) | (simp only [Prod.mk.injEq, ← UInt8.toNat_inj, ← UInt32.toNat_inj] at *; omega) | grind
theorem Ok_law07_ValidTells {t : Tab} {b : List UInt8} {n : Int} {m : Int} {K : PV × List PV → Prop} : Ok (g_law07_ValidTells [pT t, sY b, .agg [pI n, pI m]]) K = (((t.bands.length < 2 ^ 63 ∧ t.next.length < 2 ^ 63 ∧ t.brk.length < 2 ^ 63) ∧ b.length < 2 ^ 63) ∧ K (pB true, [])) := Ok_spec e_law07_ValidTells_inj (t, b, n, m)
set_option maxHeartbeats 4000000 in
theorem impl_law07_ValidTells {tbl : Tbl} {G : Nat → Option (List PV)} (hT : Tb tbl G) (h_law06_Large : tbl 19 = g_law06_Large) (h_keep_Table : tbl 24 = g_keep_Table) (h_keep_OwnTable : tbl 26 = g_keep_OwnTable) (h_valid_Alike : tbl 34 = g_valid_Alike) (h_valid_Table : tbl 35 = g_valid_Table) (h_ref07_Table : tbl 36 = g_ref07_Table) (h_valid_Bytes : tbl 38 = g_valid_Bytes) (h_ref07_Bytes : tbl 39 = g_ref07_Bytes) (h_ref07_Alike : tbl 40 = g_ref07_Alike) (h_w : tbl 33 = gTrue) : Impl Try.prog G 14 (g_law07_ValidTells) := by
  refine impl_p (E := En tbl G 72 k_law07_ValidTells []) (c := _) hT mixed Try.func14 rfl rfl (fun a => by simp [e_law07_ValidTells, pinned.eq_1, pinned.eq_2, PV.isMut.eq_1, PV.isMut.eq_2]) ?_
  rintro ⟨t, b, n, m⟩ hok
  refine ⟨by simp [e_law07_ValidTells], ?_⟩
  replace hok : (t.bands.length < 2 ^ 63 ∧ t.next.length < 2 ^ 63 ∧ t.brk.length < 2 ^ 63) ∧ b.length < 2 ^ 63 := hok
  have hw : gTrue [] = some (pB true, []) := rfl
  obtain ⟨ht, hb⟩ := hok
  by_cases hL : largeT t = true
  · simp -implicitDefEqProofs +contextual (maxSteps := 4000000) [-Int.not_le, -Int.not_lt, -Nat.not_le, -Nat.not_lt, -UInt32.toNat_or, -UInt32.toNat_xor, -UInt32.toNat_and, -UInt8.toNat_or, -UInt8.toNat_xor, -UInt8.toNat_and, -UInt32.toNat_add, -UInt8.toNat_add, -List.map_take, -List.map_drop, ← List.map_take, ← List.map_drop, -List.length_take, -List.length_drop, -List.map_replicate, rep_pY0, rep_pB0, rep_pI0, e_law07_ValidTells.eq_1, Try.results14, h_law06_Large, Ok_law06_Large, h_keep_Table, Ok_keep_Table, h_keep_OwnTable, Ok_keep_OwnTable, h_valid_Alike, Ok_valid_Alike, h_valid_Table, Ok_valid_Table, h_ref07_Table, Ok_ref07_Table, h_valid_Bytes, Ok_valid_Bytes, h_ref07_Bytes, Ok_ref07_Bytes, h_ref07_Alike, Ok_ref07_Alike, h_w, hw, hL]
    omega
  by_cases hB : 2000 < (b.length : Int)
  · simp -implicitDefEqProofs +contextual (maxSteps := 4000000) [-Int.not_le, -Int.not_lt, -Nat.not_le, -Nat.not_lt, -UInt32.toNat_or, -UInt32.toNat_xor, -UInt32.toNat_and, -UInt8.toNat_or, -UInt8.toNat_xor, -UInt8.toNat_and, -UInt32.toNat_add, -UInt8.toNat_add, -List.map_take, -List.map_drop, ← List.map_take, ← List.map_drop, -List.length_take, -List.length_drop, -List.map_replicate, rep_pY0, rep_pB0, rep_pI0, e_law07_ValidTells.eq_1, Try.results14, h_law06_Large, Ok_law06_Large, h_keep_Table, Ok_keep_Table, h_keep_OwnTable, Ok_keep_OwnTable, h_valid_Alike, Ok_valid_Alike, h_valid_Table, Ok_valid_Table, h_ref07_Table, Ok_ref07_Table, h_valid_Bytes, Ok_valid_Bytes, h_ref07_Bytes, Ok_ref07_Bytes, h_ref07_Alike, Ok_ref07_Alike, h_w, hw, hL, hB]
    omega
  have hsm := largeT_small (by simpa using hL)
  have hs2 := bytT_small (b := b)
  simp -implicitDefEqProofs +contextual (maxSteps := 4000000) [-Int.not_le, -Int.not_lt, -Nat.not_le, -Nat.not_lt, -UInt32.toNat_or, -UInt32.toNat_xor, -UInt32.toNat_and, -UInt8.toNat_or, -UInt8.toNat_xor, -UInt8.toNat_and, -UInt32.toNat_add, -UInt8.toNat_add, -List.map_take, -List.map_drop, ← List.map_take, ← List.map_drop, -List.length_take, -List.length_drop, -List.map_replicate, rep_pY0, rep_pB0, rep_pI0, e_law07_ValidTells.eq_1, Try.results14, h_law06_Large, Ok_law06_Large, h_keep_Table, Ok_keep_Table, h_keep_OwnTable, Ok_keep_OwnTable, h_valid_Alike, Ok_valid_Alike, h_valid_Table, Ok_valid_Table, h_ref07_Table, Ok_ref07_Table, h_valid_Bytes, Ok_valid_Bytes, h_ref07_Bytes, Ok_ref07_Bytes, h_ref07_Alike, Ok_ref07_Alike, h_w, hw, hL, hB, hsm, hs2]
  (repeat' (first | exact (show drawD _ _ = true by decide +kernel) | exact (show _ = List.range' _ _ from rfl) | with_reducible refine and_imp_self' ?_ ?_ | with_reducible refine And.intro ?_ ?_ | with_reducible refine @Exists.intro Nat _ (i + 1) ?_ | with_reducible refine Exists.intro (show (_ : Nat) < _ by omega) ?_ | intro _)) <;> (try (first | omega | (unfold fits; omega) | assumption | with_reducible rfl | (simp only [inR_iff, inR_not, fits_iff] at *; omega)))
theorem law_law07_ValidTells_eq (t : Tab) (w : wfT t) (b : List UInt8) (wb : b.length ≤ maxLen ∧ ∀ x ∈ b, True) (n : Int × Int) (wn : fits n.1 ∧ fits n.2) : g_law07_ValidTells [pT t, sY b, .agg [pI n.1, pI n.2]] = some (pB true, []) :=
  Ok_eq (by
    rw [Ok_law07_ValidTells]
    have h3 := wb.1
    unfold maxLen at h3
    exact ⟨⟨wfT_len w, by omega⟩, rfl⟩)

end Go.V
