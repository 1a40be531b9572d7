/- A part of the proof of TableFirst: contracts of functions, or what these lean on. No condition. -/
import Derived.Test.YthbmifpfhdlicaaVEq
namespace Go.V
open Go.Proofs
set_option maxRecDepth 8000
set_option linter.unusedSimpArgs false
set_option linter.unusedVariables false
def e_slices_Clone_byte : (List UInt8) → List PV := fun l => [sY l]
noncomputable def g_slices_Clone_byte : List PV → Option (PV × List PV) := spec e_slices_Clone_byte (fun l => l.length < 2 ^ 40) fun l => (tY l, [])
theorem e_slices_Clone_byte_inj (a b : (List UInt8)) (h : e_slices_Clone_byte a = e_slices_Clone_byte b) : a = b := by
  simp [e_slices_Clone_byte, map_pI_inj, map_pB_inj, map_pY_inj, map_pBand_inj, map_sI_inj, Int.natCast_inj, UInt8.toNat_inj, UInt32.toNat_inj] at h; first | exact h | (simp [h]; done) | exact UInt32.toNat_inj.1 (by omega) | exact UInt8.toNat_inj.1 (by omega) | (simp only [Prod.mk.injEq, ← UInt8.toNat_inj, ← UInt32.toNat_inj] at *; omega) | grind
theorem Ok_slices_Clone_byte {l : List UInt8} {K : PV × List PV → Prop} : Ok (g_slices_Clone_byte [sY l]) K = ((l.length < 2 ^ 40) ∧ K (tY l, [])) := Ok_spec e_slices_Clone_byte_inj l
set_option maxHeartbeats 1000000 in
theorem impl_slices_Clone_byte {tbl : Tbl} {G : Nat → Option (List PV)} (hT : Tb tbl G) : Impl Try.prog G 92 (g_slices_Clone_byte) := by
  refine impl_p (E := En tbl G 8 k_slices_Clone_byte []) (c := _) hT mixed Try.func92 rfl rfl (fun a => by simp [e_slices_Clone_byte, pinned.eq_1, pinned.eq_2, PV.isMut.eq_1, PV.isMut.eq_2]) ?_
  rintro l hok
  refine ⟨by simp [e_slices_Clone_byte], ?_⟩
  replace hok : l.length < 2 ^ 40 := hok
  simp -implicitDefEqProofs +contextual (maxSteps := 4000000) [-Int.not_le, -Int.not_lt, -Nat.not_le, -Nat.not_lt, -UInt32.toNat_or, -UInt32.toNat_xor, -UInt32.toNat_and, -UInt8.toNat_or, -UInt8.toNat_xor, -UInt8.toNat_and, -UInt32.toNat_add, -UInt8.toNat_add, -List.map_take, -List.map_drop, ← List.map_take, ← List.map_drop, -List.length_take, -List.length_drop, -List.map_replicate, rep_pY0, rep_pB0, rep_pI0, e_slices_Clone_byte.eq_1, Try.results92]
  omega
def big4 (v : Int) : List UInt8 := [by8 (v / 16777216), by8 (v / 65536), by8 (v / 256), by8 v]
def clamp4 (n : Int) : Nat := (max 0 (min n 4)).toNat
def putL (v n : Int) : List UInt8 := (big4 v).drop (4 - clamp4 n)
def e_pack_Put : (List UInt8) × Int × Int → List PV := fun (l, v, n) => [sY l, pI v, pI n]
noncomputable def g_pack_Put : List PV → Option (PV × List PV) := spec e_pack_Put (fun (l, v, n) => l.length < 2 ^ 39 ∧ fits v) fun (l, v, n) => (tY (l ++ putL v n), [])
theorem e_pack_Put_inj (a b : (List UInt8) × Int × Int) (h : e_pack_Put a = e_pack_Put b) : a = b := by
  obtain ⟨l1, v1, n1⟩ := a; obtain ⟨l2, v2, n2⟩ := b; simp [e_pack_Put, map_pI_inj, map_pB_inj, map_pY_inj, map_pBand_inj, map_sI_inj, Int.natCast_inj, UInt8.toNat_inj, UInt32.toNat_inj] at h; first | exact h | (simp [h]; done) | exact UInt32.toNat_inj.1 (by omega) | exact UInt8.toNat_inj.1 (by omega) | (simp only [Prod.mk.injEq, ← UInt8.toNat_inj, ← UInt32.toNat_inj] at *; omega) | grind
theorem Ok_pack_Put {l : List UInt8} {v : Int} {n : Int} {K : PV × List PV → Prop} : Ok (g_pack_Put [sY l, pI v, pI n]) K = ((l.length < 2 ^ 39 ∧ fits v) ∧ K (tY (l ++ putL v n), [])) := Ok_spec e_pack_Put_inj (l, v, n)
set_option maxHeartbeats 1000000 in
theorem impl_pack_Put {tbl : Tbl} {G : Nat → Option (List PV)} (hT : Tb tbl G) (h_slices_Clone_byte : tbl 92 = g_slices_Clone_byte) : Impl Try.prog G 53 (g_pack_Put) := by
  refine impl_p (E := En tbl G 29 k_pack_Put []) (c := _) hT mixed Try.func53 rfl rfl (fun a => by simp [e_pack_Put, pinned.eq_1, pinned.eq_2, PV.isMut.eq_1, PV.isMut.eq_2]) ?_
  rintro ⟨l, v, n⟩ hok
  refine ⟨by simp [e_pack_Put], ?_⟩
  replace hok : l.length < 2 ^ 39 ∧ fits v := hok
  rcases (show n ≤ 0 ∨ n = 1 ∨ n = 2 ∨ n = 3 ∨ n = 4 ∨ 4 < n by omega) with h | rfl | rfl | rfl | rfl | h
  · have h1 : ¬ 4 < n := by omega
    have h2 : ¬ 0 < n := by omega
    have h3 : clamp4 n = 0 := by unfold clamp4; omega
    simp -implicitDefEqProofs +contextual (maxSteps := 4000000) [-Int.not_le, -Int.not_lt, -Nat.not_le, -Nat.not_lt, -UInt32.toNat_or, -UInt32.toNat_xor, -UInt32.toNat_and, -UInt8.toNat_or, -UInt8.toNat_xor, -UInt8.toNat_and, -UInt32.toNat_add, -UInt8.toNat_add, -List.map_take, -List.map_drop, ← List.map_take, ← List.map_drop, -List.length_take, -List.length_drop, -List.map_replicate, rep_pY0, rep_pB0, rep_pI0, e_pack_Put.eq_1, Try.results53, h_slices_Clone_byte, Ok_slices_Clone_byte, h1, h2, h3, putL.eq_1, big4.eq_1]
    (repeat' (first | exact (show drawD _ _ = true by decide +kernel) | exact (show _ = List.range' _ _ from rfl) | with_reducible refine and_imp_self' ?_ ?_ | with_reducible refine And.intro ?_ ?_ | with_reducible refine @Exists.intro Nat _ (i + 1) ?_ | with_reducible refine Exists.intro (show (_ : Nat) < _ by omega) ?_ | intro _)) <;> (try (first | omega | (unfold fits; omega) | assumption | with_reducible rfl | (simp only [inR_iff, inR_not, fits_iff] at *; omega)))
  · have h3 : clamp4 1 = 1 := by decide
    simp -implicitDefEqProofs +contextual (maxSteps := 4000000) [-Int.not_le, -Int.not_lt, -Nat.not_le, -Nat.not_lt, -UInt32.toNat_or, -UInt32.toNat_xor, -UInt32.toNat_and, -UInt8.toNat_or, -UInt8.toNat_xor, -UInt8.toNat_and, -UInt32.toNat_add, -UInt8.toNat_add, -List.map_take, -List.map_drop, ← List.map_take, ← List.map_drop, -List.length_take, -List.length_drop, -List.map_replicate, rep_pY0, rep_pB0, rep_pI0, e_pack_Put.eq_1, Try.results53, h_slices_Clone_byte, Ok_slices_Clone_byte, h3, putL.eq_1, big4.eq_1]
    (repeat' (first | exact (show drawD _ _ = true by decide +kernel) | exact (show _ = List.range' _ _ from rfl) | with_reducible refine and_imp_self' ?_ ?_ | with_reducible refine And.intro ?_ ?_ | with_reducible refine @Exists.intro Nat _ (i + 1) ?_ | with_reducible refine Exists.intro (show (_ : Nat) < _ by omega) ?_ | intro _)) <;> (try (first | omega | (unfold fits; omega) | assumption | with_reducible rfl | (simp only [inR_iff, inR_not, fits_iff] at *; omega)))
  · have h3 : clamp4 2 = 2 := by decide
    simp -implicitDefEqProofs +contextual (maxSteps := 4000000) [-Int.not_le, -Int.not_lt, -Nat.not_le, -Nat.not_lt, -UInt32.toNat_or, -UInt32.toNat_xor, -UInt32.toNat_and, -UInt8.toNat_or, -UInt8.toNat_xor, -UInt8.toNat_and, -UInt32.toNat_add, -UInt8.toNat_add, -List.map_take, -List.map_drop, ← List.map_take, ← List.map_drop, -List.length_take, -List.length_drop, -List.map_replicate, rep_pY0, rep_pB0, rep_pI0, e_pack_Put.eq_1, Try.results53, h_slices_Clone_byte, Ok_slices_Clone_byte, h3, putL.eq_1, big4.eq_1]
    (repeat' (first | exact (show drawD _ _ = true by decide +kernel) | exact (show _ = List.range' _ _ from rfl) | with_reducible refine and_imp_self' ?_ ?_ | with_reducible refine And.intro ?_ ?_ | with_reducible refine @Exists.intro Nat _ (i + 1) ?_ | with_reducible refine Exists.intro (show (_ : Nat) < _ by omega) ?_ | intro _)) <;> (try (first | omega | (unfold fits; omega) | assumption | with_reducible rfl | (simp only [inR_iff, inR_not, fits_iff] at *; omega)))
  · have h3 : clamp4 3 = 3 := by decide
    simp -implicitDefEqProofs +contextual (maxSteps := 4000000) [-Int.not_le, -Int.not_lt, -Nat.not_le, -Nat.not_lt, -UInt32.toNat_or, -UInt32.toNat_xor, -UInt32.toNat_and, -UInt8.toNat_or, -UInt8.toNat_xor, -UInt8.toNat_and, -UInt32.toNat_add, -UInt8.toNat_add, -List.map_take, -List.map_drop, ← List.map_take, ← List.map_drop, -List.length_take, -List.length_drop, -List.map_replicate, rep_pY0, rep_pB0, rep_pI0, e_pack_Put.eq_1, Try.results53, h_slices_Clone_byte, Ok_slices_Clone_byte, h3, putL.eq_1, big4.eq_1]
    (repeat' (first | exact (show drawD _ _ = true by decide +kernel) | exact (show _ = List.range' _ _ from rfl) | with_reducible refine and_imp_self' ?_ ?_ | with_reducible refine And.intro ?_ ?_ | with_reducible refine @Exists.intro Nat _ (i + 1) ?_ | with_reducible refine Exists.intro (show (_ : Nat) < _ by omega) ?_ | intro _)) <;> (try (first | omega | (unfold fits; omega) | assumption | with_reducible rfl | (simp only [inR_iff, inR_not, fits_iff] at *; omega)))
  · have h3 : clamp4 4 = 4 := by decide
    simp -implicitDefEqProofs +contextual (maxSteps := 4000000) [-Int.not_le, -Int.not_lt, -Nat.not_le, -Nat.not_lt, -UInt32.toNat_or, -UInt32.toNat_xor, -UInt32.toNat_and, -UInt8.toNat_or, -UInt8.toNat_xor, -UInt8.toNat_and, -UInt32.toNat_add, -UInt8.toNat_add, -List.map_take, -List.map_drop, ← List.map_take, ← List.map_drop, -List.length_take, -List.length_drop, -List.map_replicate, rep_pY0, rep_pB0, rep_pI0, e_pack_Put.eq_1, Try.results53, h_slices_Clone_byte, Ok_slices_Clone_byte, h3, putL.eq_1, big4.eq_1]
    (repeat' (first | exact (show drawD _ _ = true by decide +kernel) | exact (show _ = List.range' _ _ from rfl) | with_reducible refine and_imp_self' ?_ ?_ | with_reducible refine And.intro ?_ ?_ | with_reducible refine @Exists.intro Nat _ (i + 1) ?_ | with_reducible refine Exists.intro (show (_ : Nat) < _ by omega) ?_ | intro _)) <;> (try (first | omega | (unfold fits; omega) | assumption | with_reducible rfl | (simp only [inR_iff, inR_not, fits_iff] at *; omega)))
  · have h2 : 0 < n := by omega
    have h3 : clamp4 n = 4 := by unfold clamp4; omega
    simp -implicitDefEqProofs +contextual (maxSteps := 4000000) [-Int.not_le, -Int.not_lt, -Nat.not_le, -Nat.not_lt, -UInt32.toNat_or, -UInt32.toNat_xor, -UInt32.toNat_and, -UInt8.toNat_or, -UInt8.toNat_xor, -UInt8.toNat_and, -UInt32.toNat_add, -UInt8.toNat_add, -List.map_take, -List.map_drop, ← List.map_take, ← List.map_drop, -List.length_take, -List.length_drop, -List.map_replicate, rep_pY0, rep_pB0, rep_pI0, e_pack_Put.eq_1, Try.results53, h_slices_Clone_byte, Ok_slices_Clone_byte, h, h2, h3, putL.eq_1, big4.eq_1]
    (repeat' (first | exact (show drawD _ _ = true by decide +kernel) | exact (show _ = List.range' _ _ from rfl) | with_reducible refine and_imp_self' ?_ ?_ | with_reducible refine And.intro ?_ ?_ | with_reducible refine @Exists.intro Nat _ (i + 1) ?_ | with_reducible refine Exists.intro (show (_ : Nat) < _ by omega) ?_ | intro _)) <;> (try (first | omega | (unfold fits; omega) | assumption | with_reducible rfl | (simp only [inR_iff, inR_not, fits_iff] at *; omega)))

end Go.V
