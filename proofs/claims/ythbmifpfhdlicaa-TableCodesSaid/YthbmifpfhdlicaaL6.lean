/- A part of the proof of TableCodes: contracts of functions, or what these lean on. No condition. -/
import Derived.Test.YthbmifpfhdlicaaP8
import Derived.Test.YthbmifpfhdlicaaA17
import Derived.Test.YthbmifpfhdlicaaA16
import Derived.Test.YthbmifpfhdlicaaA5
import Derived.Test.YthbmifpfhdlicaaA6
import Derived.Test.YthbmifpfhdlicaaA3
import Derived.Test.YthbmifpfhdlicaaA10
import Derived.Test.YthbmifpfhdlicaaA4
import Derived.Test.YthbmifpfhdlicaaW6
namespace Go.V
open Go.Proofs
set_option maxRecDepth 8000
set_option linter.unusedSimpArgs false
set_option linter.unusedVariables false
def e_law06_TableCodes : Tab × Tab × (List UInt8) → List PV := fun (t, u, b) => [pT t, pT u, sY b]
noncomputable def g_law06_TableCodes : List PV → Option (PV × List PV) := spec e_law06_TableCodes (fun (t, u, b) => (t.bands.length < 2 ^ 63 ∧ t.next.length < 2 ^ 63 ∧ t.brk.length < 2 ^ 63) ∧ (u.bands.length < 2 ^ 63 ∧ u.next.length < 2 ^ 63 ∧ u.brk.length < 2 ^ 63) ∧ b.length < 2 ^ 63) fun (t, u, b) => (pB true, [])
theorem e_law06_TableCodes_inj (a b : Tab × Tab × (List UInt8)) (h : e_law06_TableCodes a = e_law06_TableCodes b) : a = b := by
  obtain ⟨⟨t1a, t1b, t1c, t1d⟩, ⟨u1a, u1b, u1c, u1d⟩, b1⟩ := a; obtain ⟨⟨t2a, t2b, t2c, t2d⟩, ⟨u2a, u2b, u2c, u2d⟩, b2⟩ := b; simp [e_law06_TableCodes, map_pI_inj, map_pB_inj, map_pY_inj, map_pBand_inj, map_sI_inj, Int.natCast_inj, UInt8.toNat_inj, UInt32.toNat_inj] at h; first | exact h | (simp [h]; done) | exact UInt32.toNat_inj.1 (by omega) | exact UInt8.toNat_inj.1 (by omega) | (simp only [Prod.mk.injEq, ← UInt8.toNat_inj, ← UInt32.toNat_inj] at *; omega) | grind
theorem Ok_law06_TableCodes {t : Tab} {u : Tab} {b : List UInt8} {K : PV × List PV → Prop} : Ok (g_law06_TableCodes [pT t, pT u, sY b]) K = (((t.bands.length < 2 ^ 63 ∧ t.next.length < 2 ^ 63 ∧ t.brk.length < 2 ^ 63) ∧ (u.bands.length < 2 ^ 63 ∧ u.next.length < 2 ^ 63 ∧ u.brk.length < 2 ^ 63) ∧ b.length < 2 ^ 63) ∧ K (pB true, [])) := Ok_spec e_law06_TableCodes_inj (t, u, b)
set_option maxHeartbeats 4000000 in
theorem impl_law06_TableCodes {tbl : Tbl} {G : Nat → Option (List PV)} (hT : Tb tbl G) (h_law06_Large : tbl 19 = g_law06_Large) (h_table_Encode : tbl 21 = g_table_Encode) (h_table_Length : tbl 22 = g_table_Length) (h_table_Decode : tbl 23 = g_table_Decode) (h_keep_Table : tbl 24 = g_keep_Table) (h_keep_Bytes : tbl 25 = g_keep_Bytes) (h_keep_OwnTable : tbl 26 = g_keep_OwnTable) (h_ref06_Encode : tbl 27 = g_ref06_Encode) (h_ref06_Decode : tbl 28 = g_ref06_Decode) (h_table_Same : tbl 29 = g_table_Same) (h_ref06_Length : tbl 30 = g_ref06_Length) (h_w : tbl 20 = gTrue) : Impl Try.prog G 4 (g_law06_TableCodes) := by
  refine impl_p (E := En tbl G 131 k_law06_TableCodes []) (c := _) hT mixed Try.func4 rfl rfl (fun a => by simp [e_law06_TableCodes, pinned.eq_1, pinned.eq_2, PV.isMut.eq_1, PV.isMut.eq_2]) ?_
  rintro ⟨t, u, b⟩ hok
  refine ⟨by simp [e_law06_TableCodes], ?_⟩
  replace hok : (t.bands.length < 2 ^ 63 ∧ t.next.length < 2 ^ 63 ∧ t.brk.length < 2 ^ 63) ∧ (u.bands.length < 2 ^ 63 ∧ u.next.length < 2 ^ 63 ∧ u.brk.length < 2 ^ 63) ∧ b.length < 2 ^ 63 := hok
  have hw : gTrue [] = some (pB true, []) := rfl
  obtain ⟨ht, hu, hb⟩ := hok
  by_cases hL : largeT t = true
  · simp -implicitDefEqProofs +contextual (maxSteps := 4000000) [-Int.not_le, -Int.not_lt, -Nat.not_le, -Nat.not_lt, -UInt32.toNat_or, -UInt32.toNat_xor, -UInt32.toNat_and, -UInt8.toNat_or, -UInt8.toNat_xor, -UInt8.toNat_and, -UInt32.toNat_add, -UInt8.toNat_add, -List.map_take, -List.map_drop, ← List.map_take, ← List.map_drop, -List.length_take, -List.length_drop, -List.map_replicate, rep_pY0, rep_pB0, rep_pI0, e_law06_TableCodes.eq_1, Try.results4, h_law06_Large, Ok_law06_Large, h_table_Encode, Ok_table_Encode, h_table_Length, Ok_table_Length, h_table_Decode, Ok_table_Decode, h_keep_Table, Ok_keep_Table, h_keep_Bytes, Ok_keep_Bytes, h_keep_OwnTable, Ok_keep_OwnTable, h_ref06_Encode, Ok_ref06_Encode, h_ref06_Decode, Ok_ref06_Decode, h_table_Same, Ok_table_Same, h_ref06_Length, Ok_ref06_Length, h_w, hw, hL]
    omega
  by_cases hK : largeT u = true
  · simp -implicitDefEqProofs +contextual (maxSteps := 4000000) [-Int.not_le, -Int.not_lt, -Nat.not_le, -Nat.not_lt, -UInt32.toNat_or, -UInt32.toNat_xor, -UInt32.toNat_and, -UInt8.toNat_or, -UInt8.toNat_xor, -UInt8.toNat_and, -UInt32.toNat_add, -UInt8.toNat_add, -List.map_take, -List.map_drop, ← List.map_take, ← List.map_drop, -List.length_take, -List.length_drop, -List.map_replicate, rep_pY0, rep_pB0, rep_pI0, e_law06_TableCodes.eq_1, Try.results4, h_law06_Large, Ok_law06_Large, h_table_Encode, Ok_table_Encode, h_table_Length, Ok_table_Length, h_table_Decode, Ok_table_Decode, h_keep_Table, Ok_keep_Table, h_keep_Bytes, Ok_keep_Bytes, h_keep_OwnTable, Ok_keep_OwnTable, h_ref06_Encode, Ok_ref06_Encode, h_ref06_Decode, Ok_ref06_Decode, h_table_Same, Ok_table_Same, h_ref06_Length, Ok_ref06_Length, h_w, hw, hL, hK]
    omega
  by_cases hB : 2000 < (b.length : Int)
  · simp -implicitDefEqProofs +contextual (maxSteps := 4000000) [-Int.not_le, -Int.not_lt, -Nat.not_le, -Nat.not_lt, -UInt32.toNat_or, -UInt32.toNat_xor, -UInt32.toNat_and, -UInt8.toNat_or, -UInt8.toNat_xor, -UInt8.toNat_and, -UInt32.toNat_add, -UInt8.toNat_add, -List.map_take, -List.map_drop, ← List.map_take, ← List.map_drop, -List.length_take, -List.length_drop, -List.map_replicate, rep_pY0, rep_pB0, rep_pI0, e_law06_TableCodes.eq_1, Try.results4, h_law06_Large, Ok_law06_Large, h_table_Encode, Ok_table_Encode, h_table_Length, Ok_table_Length, h_table_Decode, Ok_table_Decode, h_keep_Table, Ok_keep_Table, h_keep_Bytes, Ok_keep_Bytes, h_keep_OwnTable, Ok_keep_OwnTable, h_ref06_Encode, Ok_ref06_Encode, h_ref06_Decode, Ok_ref06_Decode, h_table_Same, Ok_table_Same, h_ref06_Length, Ok_ref06_Length, h_w, hw, hL, hK, hB]
    omega
  have hsm := largeT_small (by simpa using hL)
  have hsu := largeT_small (by simpa using hK)
  simp -implicitDefEqProofs +contextual (maxSteps := 4000000) [-Int.not_le, -Int.not_lt, -Nat.not_le, -Nat.not_lt, -UInt32.toNat_or, -UInt32.toNat_xor, -UInt32.toNat_and, -UInt8.toNat_or, -UInt8.toNat_xor, -UInt8.toNat_and, -UInt32.toNat_add, -UInt8.toNat_add, -List.map_take, -List.map_drop, ← List.map_take, ← List.map_drop, -List.length_take, -List.length_drop, -List.map_replicate, rep_pY0, rep_pB0, rep_pI0, e_law06_TableCodes.eq_1, Try.results4, h_law06_Large, Ok_law06_Large, h_table_Encode, Ok_table_Encode, h_table_Length, Ok_table_Length, h_table_Decode, Ok_table_Decode, h_keep_Table, Ok_keep_Table, h_keep_Bytes, Ok_keep_Bytes, h_keep_OwnTable, Ok_keep_OwnTable, h_ref06_Encode, Ok_ref06_Encode, h_ref06_Decode, Ok_ref06_Decode, h_table_Same, Ok_table_Same, h_ref06_Length, Ok_ref06_Length, h_w, hw, hL, hK, hB, hsm, hsu, dec_small]
  (repeat' (first | exact (show drawD _ _ = true by decide +kernel) | exact (show _ = List.range' _ _ from rfl) | with_reducible refine and_imp_self' ?_ ?_ | with_reducible refine And.intro ?_ ?_ | with_reducible refine @Exists.intro Nat _ (i + 1) ?_ | with_reducible refine Exists.intro (show (_ : Nat) < _ by omega) ?_ | intro _)) <;> (try (first | omega | (unfold fits; omega) | assumption | with_reducible rfl | (simp only [inR_iff, inR_not, fits_iff] at *; omega)))
theorem law_law06_TableCodes_eq (t : Tab) (w : wfT t) (u : Tab) (wu : wfT u) (b : List UInt8) (wb : b.length ≤ maxLen ∧ ∀ x ∈ b, True) : g_law06_TableCodes [pT t, pT u, sY b] = some (pB true, []) :=
  Ok_eq (by
    rw [Ok_law06_TableCodes]
    have h3 := wb.1
    unfold maxLen at h3
    exact ⟨⟨wfT_len w, wfT_len wu, by omega⟩, rfl⟩)

end Go.V
