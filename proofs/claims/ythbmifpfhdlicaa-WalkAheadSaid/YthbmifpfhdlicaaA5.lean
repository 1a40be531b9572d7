/- A part of this seat's proofs: contracts of functions, or what these lean on. No condition. -/
import Derived.Test.YthbmifpfhdlicaaA4
namespace Go.V
open Go.Proofs
set_option maxRecDepth 8000
set_option linter.unusedSimpArgs false
set_option linter.unusedVariables false
def e_table_Same_1 : (List Int) × (List Int) → List PV := fun (a, b) => [sI a, sI b]
noncomputable def g_table_Same_1 : List PV → Option (PV × List PV) := spec e_table_Same_1 (fun (a, b) => a.length < 2 ^ 62 ∧ b.length < 2 ^ 62) fun (a, b) => (pB (decide (a = b)), [])
theorem e_table_Same_1_inj (a b : (List Int) × (List Int)) (h : e_table_Same_1 a = e_table_Same_1 b) : a = b := by
  obtain ⟨a1, b1⟩ := a; obtain ⟨a2, b2⟩ := b; simp [e_table_Same_1, map_pI_inj, map_pB_inj, map_pY_inj, map_pBand_inj, map_sI_inj, Int.natCast_inj, UInt8.toNat_inj, UInt32.toNat_inj] at h; first | exact h | (simp [h]; done) | exact UInt32.toNat_inj.1 (by omega) | exact UInt8.toNat_inj.1 (by omega) | (simp only [Prod.mk.injEq, ← UInt8.toNat_inj, ← UInt32.toNat_inj] at *; omega) | grind
theorem Ok_table_Same_1 {a : List Int} {b : List Int} {K : PV × List PV → Prop} : Ok (g_table_Same_1 [sI a, sI b]) K = ((a.length < 2 ^ 62 ∧ b.length < 2 ^ 62) ∧ K (pB (decide (a = b)), [])) := Ok_spec e_table_Same_1_inj (a, b)
set_option maxHeartbeats 1000000 in
theorem impl_table_Same_1 {tbl : Tbl} {G : Nat → Option (List PV)} (hT : Tb tbl G) (h_slices_Equal_int : tbl 71 = g_slices_Equal_int) : Impl Try.prog G 70 (g_table_Same_1) := by
  refine impl_p (E := En tbl G 8 k_table_Same_1 []) (c := _) hT mixed Try.func70 rfl rfl (fun a => by simp [e_table_Same_1, pinned.eq_1, pinned.eq_2, PV.isMut.eq_1, PV.isMut.eq_2]) ?_
  rintro ⟨a, b⟩ hok
  refine ⟨by simp [e_table_Same_1], ?_⟩
  replace hok : a.length < 2 ^ 62 ∧ b.length < 2 ^ 62 := hok
  simp -implicitDefEqProofs +contextual (maxSteps := 4000000) [-Int.not_le, -Int.not_lt, -Nat.not_le, -Nat.not_lt, -UInt32.toNat_or, -UInt32.toNat_xor, -UInt32.toNat_and, -UInt8.toNat_or, -UInt8.toNat_xor, -UInt8.toNat_and, -UInt32.toNat_add, -UInt8.toNat_add, -List.map_take, -List.map_drop, ← List.map_take, ← List.map_drop, -List.length_take, -List.length_drop, -List.map_replicate, rep_pY0, rep_pB0, rep_pI0, e_table_Same_1.eq_1, Try.results70, h_slices_Equal_int, Ok_slices_Equal_int]
  (repeat' (first | exact (show drawD _ _ = true by decide +kernel) | exact (show _ = List.range' _ _ from rfl) | with_reducible refine and_imp_self' ?_ ?_ | with_reducible refine And.intro ?_ ?_ | with_reducible refine @Exists.intro Nat _ (i + 1) ?_ | with_reducible refine Exists.intro (show (_ : Nat) < _ by omega) ?_ | intro _)) <;> (try (first | omega | (unfold fits; omega) | assumption | with_reducible rfl | (simp only [inR_iff, inR_not, fits_iff] at *; omega)))
def e_slices_EqualFunc_s_int : (List (List Int)) × (List (List Int)) → List PV := fun (a, b) => [sII a, sII b, .fn 70 []]
noncomputable def g_slices_EqualFunc_s_int : List PV → Option (PV × List PV) := spec e_slices_EqualFunc_s_int (fun (a, b) => (a.length < 2 ^ 62 ∧ b.length < 2 ^ 62) ∧ (∀ x ∈ a, x.length < 2 ^ 62) ∧ ∀ x ∈ b, x.length < 2 ^ 62) fun (a, b) => (pB (decide (a = b)), [])
theorem e_slices_EqualFunc_s_int_inj (a b : (List (List Int)) × (List (List Int))) (h : e_slices_EqualFunc_s_int a = e_slices_EqualFunc_s_int b) : a = b := by
  obtain ⟨a1, b1⟩ := a; obtain ⟨a2, b2⟩ := b; simp [e_slices_EqualFunc_s_int, map_pI_inj, map_pB_inj, map_pY_inj, map_pBand_inj, map_sI_inj, Int.natCast_inj, UInt8.toNat_inj, UInt32.toNat_inj] at h; first | exact h | (simp [h]; done) | exact UInt32.toNat_inj.1 (by omega) | exact UInt8.toNat_inj.1 (by omega) | (simp only [Prod.mk.injEq, ← UInt8.toNat_inj, ← UInt32.toNat_inj] at *; omega) | grind
theorem Ok_slices_EqualFunc_s_int {a : List (List Int)} {b : List (List Int)} {K : PV × List PV → Prop} : Ok (g_slices_EqualFunc_s_int [sII a, sII b, .fn 70 []]) K = (((a.length < 2 ^ 62 ∧ b.length < 2 ^ 62) ∧ (∀ x ∈ a, x.length < 2 ^ 62) ∧ ∀ x ∈ b, x.length < 2 ^ 62) ∧ K (pB (decide (a = b)), [])) := Ok_spec e_slices_EqualFunc_s_int_inj (a, b)
set_option maxHeartbeats 1000000 in
theorem impl_slices_EqualFunc_s_int {tbl : Tbl} {G : Nat → Option (List PV)} (hT : Tb tbl G) (h_table_Same_1 : tbl 70 = g_table_Same_1) : Impl Try.prog G 69 (g_slices_EqualFunc_s_int) := by
  refine impl_p (E := En tbl G 32 k_slices_EqualFunc_s_int []) (c := _) hT mixed Try.func69 rfl rfl (fun a => by simp [e_slices_EqualFunc_s_int, pinned.eq_1, pinned.eq_2, PV.isMut.eq_1, PV.isMut.eq_2]) ?_
  rintro ⟨a, b⟩ hok
  refine ⟨by simp [e_slices_EqualFunc_s_int], ?_⟩
  replace hok : (a.length < 2 ^ 62 ∧ b.length < 2 ^ 62) ∧ (∀ x ∈ a, x.length < 2 ^ 62) ∧ ∀ x ∈ b, x.length < 2 ^ 62 := hok
  simp -implicitDefEqProofs +contextual (maxSteps := 4000000) [-Int.not_le, -Int.not_lt, -Nat.not_le, -Nat.not_lt, -UInt32.toNat_or, -UInt32.toNat_xor, -UInt32.toNat_and, -UInt8.toNat_or, -UInt8.toNat_xor, -UInt8.toNat_and, -UInt32.toNat_add, -UInt8.toNat_add, -List.map_take, -List.map_drop, ← List.map_take, ← List.map_drop, -List.length_take, -List.length_drop, -List.map_replicate, rep_pY0, rep_pB0, rep_pI0, e_slices_EqualFunc_s_int.eq_1, Try.results69, h_table_Same_1, Ok_table_Same_1]
  refine ⟨fun h e => h (by rw [e]), fun hab => ?_⟩
  refine loopo (fun i => i ≤ a.length ∧ (a = b ↔ a.drop i = b.drop i))
    (fun i => [(0, .val (sII a), 0, 0), (1, .val (sII b), 0, 0), (2, .val (.fn 70 []), 0, 0), (15, .val (sII a), 0, 0), (16, .val (pI a.length), 0, 0), (17, .val (pI i), 0, 0)])
    (fun i => a.length - i) ?_ (s := 0) ?_ ?_
  rotate_left
  · simp [hab]
  · simp
  rintro i ⟨hi, hp⟩
  simp -implicitDefEqProofs +contextual (maxSteps := 4000000) [-Int.not_le, -Int.not_lt, -Nat.not_le, -Nat.not_lt, -UInt32.toNat_or, -UInt32.toNat_xor, -UInt32.toNat_and, -UInt8.toNat_or, -UInt8.toNat_xor, -UInt8.toNat_and, -UInt32.toNat_add, -UInt8.toNat_add, -List.map_take, -List.map_drop, ← List.map_take, ← List.map_drop, -List.length_take, -List.length_drop, -List.map_replicate, rep_pY0, rep_pB0, rep_pI0, e_slices_EqualFunc_s_int.eq_1, Try.results69, h_table_Same_1, Ok_table_Same_1]
  (repeat' (first | exact (show drawD _ _ = true by decide +kernel) | exact (show _ = List.range' _ _ from rfl) | with_reducible refine and_imp_self' ?_ ?_ | with_reducible refine And.intro ?_ ?_ | with_reducible refine @Exists.intro Nat _ (i + 1) ?_ | with_reducible refine Exists.intro (show (_ : Nat) < _ by omega) ?_ | intro _)) <;> (try (first | omega | (unfold fits; omega) | assumption | with_reducible rfl | (simp only [inR_iff, inR_not, fits_iff] at *; omega)))
  all_goals first
    | exact hok.2.1 _ (List.getElem_mem _)
    | exact hok.2.2 _ (List.getElem_mem _)
    | (have hds := drop_eq_step (a := a) (b := b) (i := i) (by omega) (by omega); simp_all; done)
    | (have h1 := List.drop_of_length_le (l := a) (i := i) (by omega); have h2 := List.drop_of_length_le (l := b) (i := i) (by omega); simp_all; done)
def e_table_Same : Tab × Tab → List PV := fun (t, u) => [pT t, pT u]
noncomputable def g_table_Same : List PV → Option (PV × List PV) := spec e_table_Same (fun (t, u) => small t ∧ small u) fun (t, u) => (pB (decide (t = u)), [])
theorem e_table_Same_inj (a b : Tab × Tab) (h : e_table_Same a = e_table_Same b) : a = b := by
  obtain ⟨⟨t1a, t1b, t1c, t1d⟩, ⟨u1a, u1b, u1c, u1d⟩⟩ := a; obtain ⟨⟨t2a, t2b, t2c, t2d⟩, ⟨u2a, u2b, u2c, u2d⟩⟩ := b; simp [e_table_Same, map_pI_inj, map_pB_inj, map_pY_inj, map_pBand_inj, map_sI_inj, Int.natCast_inj, UInt8.toNat_inj, UInt32.toNat_inj] at h; first | exact h | (simp [h]; done) | exact UInt32.toNat_inj.1 (by omega) | exact UInt8.toNat_inj.1 (by omega) | (simp only [Prod.mk.injEq, ← UInt8.toNat_inj, ← UInt32.toNat_inj] at *; omega) | grind
theorem Ok_table_Same {t : Tab} {u : Tab} {K : PV × List PV → Prop} : Ok (g_table_Same [pT t, pT u]) K = ((small t ∧ small u) ∧ K (pB (decide (t = u)), [])) := Ok_spec e_table_Same_inj (t, u)
set_option maxHeartbeats 1000000 in
theorem impl_table_Same {tbl : Tbl} {G : Nat → Option (List PV)} (hT : Tb tbl G) (h_slices_Equal_Band : tbl 67 = g_slices_Equal_Band) (h_slices_Equal_bool : tbl 68 = g_slices_Equal_bool) (h_slices_EqualFunc_s_int : tbl 69 = g_slices_EqualFunc_s_int) (h_table_Same_1 : tbl 70 = g_table_Same_1) : Impl Try.prog G 29 (g_table_Same) := by
  refine impl_p (E := En tbl G 31 k_table_Same []) (c := _) hT mixed Try.func29 rfl rfl (fun a => by simp [e_table_Same, pinned.eq_1, pinned.eq_2, PV.isMut.eq_1, PV.isMut.eq_2]) ?_
  rintro ⟨t, u⟩ hok
  refine ⟨by simp [e_table_Same], ?_⟩
  replace hok : small t ∧ small u := hok
  unfold small at hok
  simp -implicitDefEqProofs +contextual (maxSteps := 4000000) [-Int.not_le, -Int.not_lt, -Nat.not_le, -Nat.not_lt, -UInt32.toNat_or, -UInt32.toNat_xor, -UInt32.toNat_and, -UInt8.toNat_or, -UInt8.toNat_xor, -UInt8.toNat_and, -UInt32.toNat_add, -UInt8.toNat_add, -List.map_take, -List.map_drop, ← List.map_take, ← List.map_drop, -List.length_take, -List.length_drop, -List.map_replicate, rep_pY0, rep_pB0, rep_pI0, e_table_Same.eq_1, Try.results29, h_slices_Equal_Band, Ok_slices_Equal_Band, h_slices_Equal_bool, Ok_slices_Equal_bool, h_slices_EqualFunc_s_int, Ok_slices_EqualFunc_s_int, h_table_Same_1, Ok_table_Same_1]
  (repeat' (first | exact (show drawD _ _ = true by decide +kernel) | exact (show _ = List.range' _ _ from rfl) | with_reducible refine and_imp_self' ?_ ?_ | with_reducible refine And.intro ?_ ?_ | with_reducible refine @Exists.intro Nat _ (i + 1) ?_ | with_reducible refine Exists.intro (show (_ : Nat) < _ by omega) ?_ | intro _)) <;> (try (first | omega | (unfold fits; omega) | assumption | with_reducible rfl | (simp only [inR_iff, inR_not, fits_iff] at *; omega)))
  all_goals first
    | (have h1 := hok.1.2 _ ‹_›; omega)
    | (have h1 := hok.2.2 _ ‹_›; omega)
    | (obtain ⟨a1, a2, a3, a4⟩ := t; obtain ⟨b1, b2, b3, b4⟩ := u; simp_all; done)

end Go.V
