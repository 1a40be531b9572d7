/- A part of the proof of ValidTells: contracts of functions, or what these lean on. No condition. -/
import Derived.Test.YthbmifpfhdlicaaA24
import Derived.Test.YthbmifpfhdlicaaA17
import Derived.Test.YthbmifpfhdlicaaA13
import Derived.Test.YthbmifpfhdlicaaA8
import Derived.Test.YthbmifpfhdlicaaP8
namespace Go.V
open Go.Proofs
set_option maxRecDepth 8000
set_option linter.unusedSimpArgs false
set_option linter.unusedVariables false
def e_ref07_Alike : Tab × Int × Int → List PV := fun (t, a, b) => [pT t, pI a, pI b]
noncomputable def g_ref07_Alike : List PV → Option (PV × List PV) := spec e_ref07_Alike (fun (t, a, b) => small t) fun (t, a, b) => (pB (alkV t a b), [])
theorem e_ref07_Alike_inj (a b : Tab × Int × Int) (h : e_ref07_Alike a = e_ref07_Alike b) : a = b := by
  obtain ⟨⟨t1a, t1b, t1c, t1d⟩, a1, b1⟩ := a; obtain ⟨⟨t2a, t2b, t2c, t2d⟩, a2, b2⟩ := b; simp [e_ref07_Alike, map_pI_inj, map_pB_inj, map_pY_inj, map_pBand_inj, map_sI_inj, Int.natCast_inj, UInt8.toNat_inj, UInt32.toNat_inj] at h; first | exact h | (simp [h]; done) | exact UInt32.toNat_inj.1 (by omega) | exact UInt8.toNat_inj.1 (by omega) | (simp only [Prod.mk.injEq, ← UInt8.toNat_inj, ← UInt32.toNat_inj] at *; omega) | grind
theorem Ok_ref07_Alike {t : Tab} {a : Int} {b : Int} {K : PV × List PV → Prop} : Ok (g_ref07_Alike [pT t, pI a, pI b]) K = ((small t) ∧ K (pB (alkV t a b), [])) := Ok_spec e_ref07_Alike_inj (t, a, b)
set_option maxHeartbeats 4000000 in
theorem impl_ref07_Alike {tbl : Tbl} {G : Nat → Option (List PV)} (hT : Tb tbl G) (h_ref07_counts : tbl 81 = g_ref07_counts) (h_ref07_nexts : tbl 83 = g_ref07_nexts) (h_ref07_apart : tbl 84 = g_ref07_apart) : Impl Try.prog G 40 (g_ref07_Alike) := by
  refine impl_p (E := En tbl G 46 k_ref07_Alike []) (c := _) hT mixed Try.func40 rfl rfl (fun a => by simp [e_ref07_Alike, pinned.eq_1, pinned.eq_2, PV.isMut.eq_1, PV.isMut.eq_2]) ?_
  rintro ⟨t, a, b⟩ hok
  refine ⟨by simp [e_ref07_Alike], ?_⟩
  replace hok : small t := hok
  have hsm := hok
  unfold small at hok
  cases h1 : cntV t
  · have e : alkV t a b = false := alkV_no (.inl h1)
    simp -implicitDefEqProofs +contextual (maxSteps := 4000000) [-Int.not_le, -Int.not_lt, -Nat.not_le, -Nat.not_lt, -UInt32.toNat_or, -UInt32.toNat_xor, -UInt32.toNat_and, -UInt8.toNat_or, -UInt8.toNat_xor, -UInt8.toNat_and, -UInt32.toNat_add, -UInt8.toNat_add, -List.map_take, -List.map_drop, ← List.map_take, ← List.map_drop, -List.length_take, -List.length_drop, -List.map_replicate, rep_pY0, rep_pB0, rep_pI0, e_ref07_Alike.eq_1, Try.results40, h_ref07_counts, Ok_ref07_counts, h_ref07_nexts, Ok_ref07_nexts, h_ref07_apart, Ok_ref07_apart, hsm, h1, e]
    all_goals (repeat' (first | exact (show drawD _ _ = true by decide +kernel) | exact (show _ = List.range' _ _ from rfl) | with_reducible refine and_imp_self' ?_ ?_ | with_reducible refine And.intro ?_ ?_ | with_reducible refine @Exists.intro Nat _ (i + 1) ?_ | with_reducible refine Exists.intro (show (_ : Nat) < _ by omega) ?_ | intro _)) <;> (try (first | omega | (unfold fits; omega) | assumption | with_reducible rfl | (simp only [inR_iff, inR_not, fits_iff] at *; omega)))
  have hC := cntV_iff.1 h1
  cases h2 : nxtV t
  · have e : alkV t a b = false := alkV_no (.inr (.inl h2))
    simp -implicitDefEqProofs +contextual (maxSteps := 4000000) [-Int.not_le, -Int.not_lt, -Nat.not_le, -Nat.not_lt, -UInt32.toNat_or, -UInt32.toNat_xor, -UInt32.toNat_and, -UInt8.toNat_or, -UInt8.toNat_xor, -UInt8.toNat_and, -UInt32.toNat_add, -UInt8.toNat_add, -List.map_take, -List.map_drop, ← List.map_take, ← List.map_drop, -List.length_take, -List.length_drop, -List.map_replicate, rep_pY0, rep_pB0, rep_pI0, e_ref07_Alike.eq_1, Try.results40, h_ref07_counts, Ok_ref07_counts, h_ref07_nexts, Ok_ref07_nexts, h_ref07_apart, Ok_ref07_apart, hsm, h1, h2, e]
    all_goals (repeat' (first | exact (show drawD _ _ = true by decide +kernel) | exact (show _ = List.range' _ _ from rfl) | with_reducible refine and_imp_self' ?_ ?_ | with_reducible refine And.intro ?_ ?_ | with_reducible refine @Exists.intro Nat _ (i + 1) ?_ | with_reducible refine Exists.intro (show (_ : Nat) < _ by omega) ?_ | intro _)) <;> (try (first | omega | (unfold fits; omega) | assumption | with_reducible rfl | (simp only [inR_iff, inR_not, fits_iff] at *; omega)))
  by_cases h3 : a < 0
  · have e : alkV t a b = false := alkV_no (.inr (.inr (.inl (inR_not.2 (by omega)))))
    simp -implicitDefEqProofs +contextual (maxSteps := 4000000) [-Int.not_le, -Int.not_lt, -Nat.not_le, -Nat.not_lt, -UInt32.toNat_or, -UInt32.toNat_xor, -UInt32.toNat_and, -UInt8.toNat_or, -UInt8.toNat_xor, -UInt8.toNat_and, -UInt32.toNat_add, -UInt8.toNat_add, -List.map_take, -List.map_drop, ← List.map_take, ← List.map_drop, -List.length_take, -List.length_drop, -List.map_replicate, rep_pY0, rep_pB0, rep_pI0, e_ref07_Alike.eq_1, Try.results40, h_ref07_counts, Ok_ref07_counts, h_ref07_nexts, Ok_ref07_nexts, h_ref07_apart, Ok_ref07_apart, hsm, h1, h2, h3, e]
    all_goals (repeat' (first | exact (show drawD _ _ = true by decide +kernel) | exact (show _ = List.range' _ _ from rfl) | with_reducible refine and_imp_self' ?_ ?_ | with_reducible refine And.intro ?_ ?_ | with_reducible refine @Exists.intro Nat _ (i + 1) ?_ | with_reducible refine Exists.intro (show (_ : Nat) < _ by omega) ?_ | intro _)) <;> (try (first | omega | (unfold fits; omega) | assumption | with_reducible rfl | (simp only [inR_iff, inR_not, fits_iff] at *; omega)))
  by_cases h4 : b < 0
  · have e : alkV t a b = false := alkV_no (.inr (.inr (.inr (inR_not.2 (by omega)))))
    simp -implicitDefEqProofs +contextual (maxSteps := 4000000) [-Int.not_le, -Int.not_lt, -Nat.not_le, -Nat.not_lt, -UInt32.toNat_or, -UInt32.toNat_xor, -UInt32.toNat_and, -UInt8.toNat_or, -UInt8.toNat_xor, -UInt8.toNat_and, -UInt32.toNat_add, -UInt8.toNat_add, -List.map_take, -List.map_drop, ← List.map_take, ← List.map_drop, -List.length_take, -List.length_drop, -List.map_replicate, rep_pY0, rep_pB0, rep_pI0, e_ref07_Alike.eq_1, Try.results40, h_ref07_counts, Ok_ref07_counts, h_ref07_nexts, Ok_ref07_nexts, h_ref07_apart, Ok_ref07_apart, hsm, h1, h2, h3, h4, e]
    all_goals (repeat' (first | exact (show drawD _ _ = true by decide +kernel) | exact (show _ = List.range' _ _ from rfl) | with_reducible refine and_imp_self' ?_ ?_ | with_reducible refine And.intro ?_ ?_ | with_reducible refine @Exists.intro Nat _ (i + 1) ?_ | with_reducible refine Exists.intro (show (_ : Nat) < _ by omega) ?_ | intro _)) <;> (try (first | omega | (unfold fits; omega) | assumption | with_reducible rfl | (simp only [inR_iff, inR_not, fits_iff] at *; omega)))
  by_cases h5 : (t.next.length : Int) ≤ a
  · have e : alkV t a b = false := alkV_no (.inr (.inr (.inl (inR_not.2 (by omega)))))
    simp -implicitDefEqProofs +contextual (maxSteps := 4000000) [-Int.not_le, -Int.not_lt, -Nat.not_le, -Nat.not_lt, -UInt32.toNat_or, -UInt32.toNat_xor, -UInt32.toNat_and, -UInt8.toNat_or, -UInt8.toNat_xor, -UInt8.toNat_and, -UInt32.toNat_add, -UInt8.toNat_add, -List.map_take, -List.map_drop, ← List.map_take, ← List.map_drop, -List.length_take, -List.length_drop, -List.map_replicate, rep_pY0, rep_pB0, rep_pI0, e_ref07_Alike.eq_1, Try.results40, h_ref07_counts, Ok_ref07_counts, h_ref07_nexts, Ok_ref07_nexts, h_ref07_apart, Ok_ref07_apart, hsm, h1, h2, h3, h4, h5, e]
    all_goals (repeat' (first | exact (show drawD _ _ = true by decide +kernel) | exact (show _ = List.range' _ _ from rfl) | with_reducible refine and_imp_self' ?_ ?_ | with_reducible refine And.intro ?_ ?_ | with_reducible refine @Exists.intro Nat _ (i + 1) ?_ | with_reducible refine Exists.intro (show (_ : Nat) < _ by omega) ?_ | intro _)) <;> (try (first | omega | (unfold fits; omega) | assumption | with_reducible rfl | (simp only [inR_iff, inR_not, fits_iff] at *; omega)))
  by_cases h6 : (t.next.length : Int) ≤ b
  · have e : alkV t a b = false := alkV_no (.inr (.inr (.inr (inR_not.2 (by omega)))))
    simp -implicitDefEqProofs +contextual (maxSteps := 4000000) [-Int.not_le, -Int.not_lt, -Nat.not_le, -Nat.not_lt, -UInt32.toNat_or, -UInt32.toNat_xor, -UInt32.toNat_and, -UInt8.toNat_or, -UInt8.toNat_xor, -UInt8.toNat_and, -UInt32.toNat_add, -UInt8.toNat_add, -List.map_take, -List.map_drop, ← List.map_take, ← List.map_drop, -List.length_take, -List.length_drop, -List.map_replicate, rep_pY0, rep_pB0, rep_pI0, e_ref07_Alike.eq_1, Try.results40, h_ref07_counts, Ok_ref07_counts, h_ref07_nexts, Ok_ref07_nexts, h_ref07_apart, Ok_ref07_apart, hsm, h1, h2, h3, h4, h5, h6, e]
    all_goals (repeat' (first | exact (show drawD _ _ = true by decide +kernel) | exact (show _ = List.range' _ _ from rfl) | with_reducible refine and_imp_self' ?_ ?_ | with_reducible refine And.intro ?_ ?_ | with_reducible refine @Exists.intro Nat _ (i + 1) ?_ | with_reducible refine Exists.intro (show (_ : Nat) < _ by omega) ?_ | intro _)) <;> (try (first | omega | (unfold fits; omega) | assumption | with_reducible rfl | (simp only [inR_iff, inR_not, fits_iff] at *; omega)))
  obtain ⟨x, rfl⟩ := Int.eq_ofNat_of_zero_le (show 0 ≤ a by omega)
  obtain ⟨y, rfl⟩ := Int.eq_ofNat_of_zero_le (show 0 ≤ b by omega)
  have e : alkV t x y = alk t x y := by unfold alkV; rw [h1, h2, inR_iff.2 (by omega), inR_iff.2 (by omega)]; simp
  have q1 : x < (apM t).length := by rw [apM_len]; omega
  have q2 : y < (apM t)[x].length := by rw [apM_row]; omega
  simp -implicitDefEqProofs +contextual (maxSteps := 4000000) [-Int.not_le, -Int.not_lt, -Nat.not_le, -Nat.not_lt, -UInt32.toNat_or, -UInt32.toNat_xor, -UInt32.toNat_and, -UInt8.toNat_or, -UInt8.toNat_xor, -UInt8.toNat_and, -UInt32.toNat_add, -UInt8.toNat_add, -List.map_take, -List.map_drop, ← List.map_take, ← List.map_drop, -List.length_take, -List.length_drop, -List.map_replicate, rep_pY0, rep_pB0, rep_pI0, e_ref07_Alike.eq_1, Try.results40, h_ref07_counts, Ok_ref07_counts, h_ref07_nexts, Ok_ref07_nexts, h_ref07_apart, Ok_ref07_apart, hsm, hC, h1, h2, h3, h4, h5, h6, e, q1, q2, apM_get]
  all_goals (repeat' (first | exact (show drawD _ _ = true by decide +kernel) | exact (show _ = List.range' _ _ from rfl) | with_reducible refine and_imp_self' ?_ ?_ | with_reducible refine And.intro ?_ ?_ | with_reducible refine @Exists.intro Nat _ (i + 1) ?_ | with_reducible refine Exists.intro (show (_ : Nat) < _ by omega) ?_ | intro _)) <;> (try (first | omega | (unfold fits; omega) | assumption | with_reducible rfl | (simp only [inR_iff, inR_not, fits_iff] at *; omega)))
noncomputable def bytE (b : List UInt8) : Int := if decE b = 0 then validE (dec b) else decE b
noncomputable def bytT (b : List UInt8) : Tab := if bytE b = 0 then dec b else ⟨0, [], [], []⟩
def e_valid_Bytes : (List UInt8) → List PV := fun b => [sY b]
noncomputable def g_valid_Bytes : List PV → Option (PV × List PV) := spec e_valid_Bytes (fun b => b.length < 2 ^ 30) fun b => (.tup [oT (bytT b), pI (bytE b)], [])
theorem e_valid_Bytes_inj (a b : (List UInt8)) (h : e_valid_Bytes a = e_valid_Bytes b) : a = b := by
  simp [e_valid_Bytes, map_pI_inj, map_pB_inj, map_pY_inj, map_pBand_inj, map_sI_inj, Int.natCast_inj, UInt8.toNat_inj, UInt32.toNat_inj] at h; first | exact h | (simp [h]; done) | exact UInt32.toNat_inj.1 (by omega) | exact UInt8.toNat_inj.1 (by omega) | (simp only [Prod.mk.injEq, ← UInt8.toNat_inj, ← UInt32.toNat_inj] at *; omega) | grind
theorem Ok_valid_Bytes {b : List UInt8} {K : PV × List PV → Prop} : Ok (g_valid_Bytes [sY b]) K = ((b.length < 2 ^ 30) ∧ K (.tup [oT (bytT b), pI (bytE b)], [])) := Ok_spec e_valid_Bytes_inj b
set_option maxHeartbeats 1000000 in
theorem impl_valid_Bytes {tbl : Tbl} {G : Nat → Option (List PV)} (hT : Tb tbl G) (h_table_Decode : tbl 23 = g_table_Decode) (h_valid_Table : tbl 35 = g_valid_Table) : Impl Try.prog G 38 (g_valid_Bytes) := by
  refine impl_p (E := En tbl G 20 k_valid_Bytes []) (c := _) hT mixed Try.func38 rfl rfl (fun a => by simp [e_valid_Bytes, pinned.eq_1, pinned.eq_2, PV.isMut.eq_1, PV.isMut.eq_2]) ?_
  rintro b hok
  refine ⟨by simp [e_valid_Bytes], ?_⟩
  replace hok : b.length < 2 ^ 30 := hok
  have hsm : small (dec b) := dec_small
  by_cases h1 : decE b = 0
  · by_cases h2 : validE (dec b) = 0
    · have e1 : bytE b = 0 := by simp [bytE, h1, h2]
      have e2 : bytT b = dec b := by simp [bytT, e1]
      simp -implicitDefEqProofs +contextual (maxSteps := 4000000) [-Int.not_le, -Int.not_lt, -Nat.not_le, -Nat.not_lt, -UInt32.toNat_or, -UInt32.toNat_xor, -UInt32.toNat_and, -UInt8.toNat_or, -UInt8.toNat_xor, -UInt8.toNat_and, -UInt32.toNat_add, -UInt8.toNat_add, -List.map_take, -List.map_drop, ← List.map_take, ← List.map_drop, -List.length_take, -List.length_drop, -List.map_replicate, rep_pY0, rep_pB0, rep_pI0, e_valid_Bytes.eq_1, Try.results38, h_table_Decode, Ok_table_Decode, h_valid_Table, Ok_valid_Table, hsm, h1, h2, e1, e2]
      all_goals (repeat' (first | exact (show drawD _ _ = true by decide +kernel) | exact (show _ = List.range' _ _ from rfl) | with_reducible refine and_imp_self' ?_ ?_ | with_reducible refine And.intro ?_ ?_ | with_reducible refine @Exists.intro Nat _ (i + 1) ?_ | with_reducible refine Exists.intro (show (_ : Nat) < _ by omega) ?_ | intro _)) <;> (try (first | omega | (unfold fits; omega) | assumption | with_reducible rfl | (simp only [inR_iff, inR_not, fits_iff] at *; omega)))
    · have e1 : bytE b = validE (dec b) := by simp [bytE, h1]
      have e2 : bytT b = ⟨0, [], [], []⟩ := by simp [bytT, e1, h2]
      simp -implicitDefEqProofs +contextual (maxSteps := 4000000) [-Int.not_le, -Int.not_lt, -Nat.not_le, -Nat.not_lt, -UInt32.toNat_or, -UInt32.toNat_xor, -UInt32.toNat_and, -UInt8.toNat_or, -UInt8.toNat_xor, -UInt8.toNat_and, -UInt32.toNat_add, -UInt8.toNat_add, -List.map_take, -List.map_drop, ← List.map_take, ← List.map_drop, -List.length_take, -List.length_drop, -List.map_replicate, rep_pY0, rep_pB0, rep_pI0, e_valid_Bytes.eq_1, Try.results38, h_table_Decode, Ok_table_Decode, h_valid_Table, Ok_valid_Table, hsm, h1, h2, e1, e2]
      all_goals (repeat' (first | exact (show drawD _ _ = true by decide +kernel) | exact (show _ = List.range' _ _ from rfl) | with_reducible refine and_imp_self' ?_ ?_ | with_reducible refine And.intro ?_ ?_ | with_reducible refine @Exists.intro Nat _ (i + 1) ?_ | with_reducible refine Exists.intro (show (_ : Nat) < _ by omega) ?_ | intro _)) <;> (try (first | omega | (unfold fits; omega) | assumption | with_reducible rfl | (simp only [inR_iff, inR_not, fits_iff] at *; omega)))
  · have e1 : bytE b = decE b := by simp [bytE, h1]
    have e2 : bytT b = ⟨0, [], [], []⟩ := by simp [bytT, e1, h1]
    simp -implicitDefEqProofs +contextual (maxSteps := 4000000) [-Int.not_le, -Int.not_lt, -Nat.not_le, -Nat.not_lt, -UInt32.toNat_or, -UInt32.toNat_xor, -UInt32.toNat_and, -UInt8.toNat_or, -UInt8.toNat_xor, -UInt8.toNat_and, -UInt32.toNat_add, -UInt8.toNat_add, -List.map_take, -List.map_drop, ← List.map_take, ← List.map_drop, -List.length_take, -List.length_drop, -List.map_replicate, rep_pY0, rep_pB0, rep_pI0, e_valid_Bytes.eq_1, Try.results38, h_table_Decode, Ok_table_Decode, h_valid_Table, Ok_valid_Table, hsm, h1, e1, e2]
    all_goals (repeat' (first | exact (show drawD _ _ = true by decide +kernel) | exact (show _ = List.range' _ _ from rfl) | with_reducible refine and_imp_self' ?_ ?_ | with_reducible refine And.intro ?_ ?_ | with_reducible refine @Exists.intro Nat _ (i + 1) ?_ | with_reducible refine Exists.intro (show (_ : Nat) < _ by omega) ?_ | intro _)) <;> (try (first | omega | (unfold fits; omega) | assumption | with_reducible rfl | (simp only [inR_iff, inR_not, fits_iff] at *; omega)))
def e_ref07_Bytes : (List UInt8) → List PV := fun b => [sY b]
noncomputable def g_ref07_Bytes : List PV → Option (PV × List PV) := spec e_ref07_Bytes (fun b => b.length < 2 ^ 30) fun b => (.tup [oT (bytT b), pI (bytE b)], [])
theorem e_ref07_Bytes_inj (a b : (List UInt8)) (h : e_ref07_Bytes a = e_ref07_Bytes b) : a = b := by
  simp [e_ref07_Bytes, map_pI_inj, map_pB_inj, map_pY_inj, map_pBand_inj, map_sI_inj, Int.natCast_inj, UInt8.toNat_inj, UInt32.toNat_inj] at h; first | exact h | (simp [h]; done) | exact UInt32.toNat_inj.1 (by omega) | exact UInt8.toNat_inj.1 (by omega) | (simp only [Prod.mk.injEq, ← UInt8.toNat_inj, ← UInt32.toNat_inj] at *; omega) | grind
theorem Ok_ref07_Bytes {b : List UInt8} {K : PV × List PV → Prop} : Ok (g_ref07_Bytes [sY b]) K = ((b.length < 2 ^ 30) ∧ K (.tup [oT (bytT b), pI (bytE b)], [])) := Ok_spec e_ref07_Bytes_inj b
set_option maxHeartbeats 1000000 in
theorem impl_ref07_Bytes {tbl : Tbl} {G : Nat → Option (List PV)} (hT : Tb tbl G) (h_ref06_Decode : tbl 28 = g_ref06_Decode) (h_ref07_Table : tbl 36 = g_ref07_Table) : Impl Try.prog G 39 (g_ref07_Bytes) := by
  refine impl_p (E := En tbl G 23 k_ref07_Bytes []) (c := _) hT mixed Try.func39 rfl rfl (fun a => by simp [e_ref07_Bytes, pinned.eq_1, pinned.eq_2, PV.isMut.eq_1, PV.isMut.eq_2]) ?_
  rintro b hok
  refine ⟨by simp [e_ref07_Bytes], ?_⟩
  replace hok : b.length < 2 ^ 30 := hok
  have hsm : small (dec b) := dec_small
  by_cases h1 : decE b = 0
  · by_cases h2 : validE (dec b) = 0
    · have e1 : bytE b = 0 := by simp [bytE, h1, h2]
      have e2 : bytT b = dec b := by simp [bytT, e1]
      simp -implicitDefEqProofs +contextual (maxSteps := 4000000) [-Int.not_le, -Int.not_lt, -Nat.not_le, -Nat.not_lt, -UInt32.toNat_or, -UInt32.toNat_xor, -UInt32.toNat_and, -UInt8.toNat_or, -UInt8.toNat_xor, -UInt8.toNat_and, -UInt32.toNat_add, -UInt8.toNat_add, -List.map_take, -List.map_drop, ← List.map_take, ← List.map_drop, -List.length_take, -List.length_drop, -List.map_replicate, rep_pY0, rep_pB0, rep_pI0, e_ref07_Bytes.eq_1, Try.results39, h_ref06_Decode, Ok_ref06_Decode, h_ref07_Table, Ok_ref07_Table, hsm, h1, h2, e1, e2]
      all_goals (repeat' (first | exact (show drawD _ _ = true by decide +kernel) | exact (show _ = List.range' _ _ from rfl) | with_reducible refine and_imp_self' ?_ ?_ | with_reducible refine And.intro ?_ ?_ | with_reducible refine @Exists.intro Nat _ (i + 1) ?_ | with_reducible refine Exists.intro (show (_ : Nat) < _ by omega) ?_ | intro _)) <;> (try (first | omega | (unfold fits; omega) | assumption | with_reducible rfl | (simp only [inR_iff, inR_not, fits_iff] at *; omega)))
    · have e1 : bytE b = validE (dec b) := by simp [bytE, h1]
      have e2 : bytT b = ⟨0, [], [], []⟩ := by simp [bytT, e1, h2]
      simp -implicitDefEqProofs +contextual (maxSteps := 4000000) [-Int.not_le, -Int.not_lt, -Nat.not_le, -Nat.not_lt, -UInt32.toNat_or, -UInt32.toNat_xor, -UInt32.toNat_and, -UInt8.toNat_or, -UInt8.toNat_xor, -UInt8.toNat_and, -UInt32.toNat_add, -UInt8.toNat_add, -List.map_take, -List.map_drop, ← List.map_take, ← List.map_drop, -List.length_take, -List.length_drop, -List.map_replicate, rep_pY0, rep_pB0, rep_pI0, e_ref07_Bytes.eq_1, Try.results39, h_ref06_Decode, Ok_ref06_Decode, h_ref07_Table, Ok_ref07_Table, hsm, h1, h2, e1, e2]
      all_goals (repeat' (first | exact (show drawD _ _ = true by decide +kernel) | exact (show _ = List.range' _ _ from rfl) | with_reducible refine and_imp_self' ?_ ?_ | with_reducible refine And.intro ?_ ?_ | with_reducible refine @Exists.intro Nat _ (i + 1) ?_ | with_reducible refine Exists.intro (show (_ : Nat) < _ by omega) ?_ | intro _)) <;> (try (first | omega | (unfold fits; omega) | assumption | with_reducible rfl | (simp only [inR_iff, inR_not, fits_iff] at *; omega)))
  · have e1 : bytE b = decE b := by simp [bytE, h1]
    have e2 : bytT b = ⟨0, [], [], []⟩ := by simp [bytT, e1, h1]
    simp -implicitDefEqProofs +contextual (maxSteps := 4000000) [-Int.not_le, -Int.not_lt, -Nat.not_le, -Nat.not_lt, -UInt32.toNat_or, -UInt32.toNat_xor, -UInt32.toNat_and, -UInt8.toNat_or, -UInt8.toNat_xor, -UInt8.toNat_and, -UInt32.toNat_add, -UInt8.toNat_add, -List.map_take, -List.map_drop, ← List.map_take, ← List.map_drop, -List.length_take, -List.length_drop, -List.map_replicate, rep_pY0, rep_pB0, rep_pI0, e_ref07_Bytes.eq_1, Try.results39, h_ref06_Decode, Ok_ref06_Decode, h_ref07_Table, Ok_ref07_Table, hsm, h1, e1, e2]
    all_goals (repeat' (first | exact (show drawD _ _ = true by decide +kernel) | exact (show _ = List.range' _ _ from rfl) | with_reducible refine and_imp_self' ?_ ?_ | with_reducible refine And.intro ?_ ?_ | with_reducible refine @Exists.intro Nat _ (i + 1) ?_ | with_reducible refine Exists.intro (show (_ : Nat) < _ by omega) ?_ | intro _)) <;> (try (first | omega | (unfold fits; omega) | assumption | with_reducible rfl | (simp only [inR_iff, inR_not, fits_iff] at *; omega)))

end Go.V
