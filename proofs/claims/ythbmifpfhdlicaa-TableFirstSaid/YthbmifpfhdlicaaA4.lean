/- A part of the proof of TableFirst: contracts of functions, or what these lean on. No condition. -/
import Derived.Test.YthbmifpfhdlicaaA1
import Derived.Test.YthbmifpfhdlicaaA3
namespace Go.V
open Go.Proofs
set_option maxRecDepth 8000
set_option linter.unusedSimpArgs false
set_option linter.unusedVariables false
def e_slices_Equal_byte : (List UInt8) × (List UInt8) → List PV := fun (a, b) => [sY a, sY b]
noncomputable def g_slices_Equal_byte : List PV → Option (PV × List PV) := spec e_slices_Equal_byte (fun (a, b) => a.length < 2 ^ 62 ∧ b.length < 2 ^ 62) fun (a, b) => (pB (decide (a = b)), [])
theorem e_slices_Equal_byte_inj (a b : (List UInt8) × (List UInt8)) (h : e_slices_Equal_byte a = e_slices_Equal_byte b) : a = b := by
  obtain ⟨a1, b1⟩ := a; obtain ⟨a2, b2⟩ := b; simp [e_slices_Equal_byte, map_pI_inj, map_pB_inj, map_pY_inj, map_pBand_inj, map_sI_inj, Int.natCast_inj, UInt8.toNat_inj, UInt32.toNat_inj] at h; first | exact h | (simp [h]; done) | exact UInt32.toNat_inj.1 (by omega) | exact UInt8.toNat_inj.1 (by omega) | (simp only [Prod.mk.injEq, ← UInt8.toNat_inj, ← UInt32.toNat_inj] at *; omega) | grind
theorem Ok_slices_Equal_byte {a : List UInt8} {b : List UInt8} {K : PV × List PV → Prop} : Ok (g_slices_Equal_byte [sY a, sY b]) K = ((a.length < 2 ^ 62 ∧ b.length < 2 ^ 62) ∧ K (pB (decide (a = b)), [])) := Ok_spec e_slices_Equal_byte_inj (a, b)
set_option maxHeartbeats 1000000 in
theorem impl_slices_Equal_byte {tbl : Tbl} {G : Nat → Option (List PV)} (hT : Tb tbl G) : Impl Try.prog G 95 (g_slices_Equal_byte) := by
  refine impl_p (E := En tbl G 26 k_slices_Equal_byte []) (c := _) hT mixed Try.func95 rfl rfl (fun a => by simp [e_slices_Equal_byte, pinned.eq_1, pinned.eq_2, PV.isMut.eq_1, PV.isMut.eq_2]) ?_
  rintro ⟨a, b⟩ hok
  refine ⟨by simp [e_slices_Equal_byte], ?_⟩
  replace hok : a.length < 2 ^ 62 ∧ b.length < 2 ^ 62 := hok
  simp -implicitDefEqProofs +contextual (maxSteps := 4000000) [-Int.not_le, -Int.not_lt, -Nat.not_le, -Nat.not_lt, -UInt32.toNat_or, -UInt32.toNat_xor, -UInt32.toNat_and, -UInt8.toNat_or, -UInt8.toNat_xor, -UInt8.toNat_and, -UInt32.toNat_add, -UInt8.toNat_add, -List.map_take, -List.map_drop, ← List.map_take, ← List.map_drop, -List.length_take, -List.length_drop, -List.map_replicate, rep_pY0, rep_pB0, rep_pI0, e_slices_Equal_byte.eq_1, Try.results95, UInt8.toNat_inj]
  refine ⟨fun h e => h (by rw [e]), fun hab => ?_⟩
  refine loopo (fun i => i ≤ a.length ∧ (a = b ↔ a.drop i = b.drop i))
    (fun i => [(0, .val (sY a), 0, 0), (1, .val (sY b), 0, 0), (12, .val (pI a.length), 0, 0), (13, .val (pI i), 0, 0)])
    (fun i => a.length - i) ?_ (s := 0) ?_ ?_
  rotate_left
  · simp [hab]
  · simp
  rintro i ⟨hi, hp⟩
  simp -implicitDefEqProofs +contextual (maxSteps := 4000000) [-Int.not_le, -Int.not_lt, -Nat.not_le, -Nat.not_lt, -UInt32.toNat_or, -UInt32.toNat_xor, -UInt32.toNat_and, -UInt8.toNat_or, -UInt8.toNat_xor, -UInt8.toNat_and, -UInt32.toNat_add, -UInt8.toNat_add, -List.map_take, -List.map_drop, ← List.map_take, ← List.map_drop, -List.length_take, -List.length_drop, -List.map_replicate, rep_pY0, rep_pB0, rep_pI0, e_slices_Equal_byte.eq_1, Try.results95, UInt8.toNat_inj]
  (repeat' (first | exact (show drawD _ _ = true by decide +kernel) | exact (show _ = List.range' _ _ from rfl) | with_reducible refine and_imp_self' ?_ ?_ | with_reducible refine And.intro ?_ ?_ | with_reducible refine @Exists.intro Nat _ (i + 1) ?_ | with_reducible refine Exists.intro (show (_ : Nat) < _ by omega) ?_ | intro _)) <;> (try (first | omega | (unfold fits; omega) | assumption | with_reducible rfl | (simp only [inR_iff, inR_not, fits_iff] at *; omega)))
  · rename_i h1 h2; subst h2; exact h1 rfl
  · rename_i h1; have h0 : a[i] = b[i] := UInt8.toNat_inj.1 (by omega); rw [hp, drop_eq_step (by omega) (by omega)]; simp [h0]
  · rw [hp, List.drop_of_length_le (by omega), List.drop_of_length_le (by omega)]
def e_slices_Equal_int : (List Int) × (List Int) → List PV := fun (a, b) => [sI a, sI b]
noncomputable def g_slices_Equal_int : List PV → Option (PV × List PV) := spec e_slices_Equal_int (fun (a, b) => a.length < 2 ^ 62 ∧ b.length < 2 ^ 62) fun (a, b) => (pB (decide (a = b)), [])
theorem e_slices_Equal_int_inj (a b : (List Int) × (List Int)) (h : e_slices_Equal_int a = e_slices_Equal_int b) : a = b := by
  obtain ⟨a1, b1⟩ := a; obtain ⟨a2, b2⟩ := b; simp [e_slices_Equal_int, map_pI_inj, map_pB_inj, map_pY_inj, map_pBand_inj, map_sI_inj, Int.natCast_inj, UInt8.toNat_inj, UInt32.toNat_inj] at h; first | exact h | (simp [h]; done) | exact UInt32.toNat_inj.1 (by omega) | exact UInt8.toNat_inj.1 (by omega) | (simp only [Prod.mk.injEq, ← UInt8.toNat_inj, ← UInt32.toNat_inj] at *; omega) | grind
theorem Ok_slices_Equal_int {a : List Int} {b : List Int} {K : PV × List PV → Prop} : Ok (g_slices_Equal_int [sI a, sI b]) K = ((a.length < 2 ^ 62 ∧ b.length < 2 ^ 62) ∧ K (pB (decide (a = b)), [])) := Ok_spec e_slices_Equal_int_inj (a, b)
set_option maxHeartbeats 1000000 in
theorem impl_slices_Equal_int {tbl : Tbl} {G : Nat → Option (List PV)} (hT : Tb tbl G) : Impl Try.prog G 71 (g_slices_Equal_int) := by
  refine impl_p (E := En tbl G 26 k_slices_Equal_int []) (c := _) hT mixed Try.func71 rfl rfl (fun a => by simp [e_slices_Equal_int, pinned.eq_1, pinned.eq_2, PV.isMut.eq_1, PV.isMut.eq_2]) ?_
  rintro ⟨a, b⟩ hok
  refine ⟨by simp [e_slices_Equal_int], ?_⟩
  replace hok : a.length < 2 ^ 62 ∧ b.length < 2 ^ 62 := hok
  simp -implicitDefEqProofs +contextual (maxSteps := 4000000) [-Int.not_le, -Int.not_lt, -Nat.not_le, -Nat.not_lt, -UInt32.toNat_or, -UInt32.toNat_xor, -UInt32.toNat_and, -UInt8.toNat_or, -UInt8.toNat_xor, -UInt8.toNat_and, -UInt32.toNat_add, -UInt8.toNat_add, -List.map_take, -List.map_drop, ← List.map_take, ← List.map_drop, -List.length_take, -List.length_drop, -List.map_replicate, rep_pY0, rep_pB0, rep_pI0, e_slices_Equal_int.eq_1, Try.results71]
  refine ⟨fun h e => h (by rw [e]), fun hab => ?_⟩
  refine loopo (fun i => i ≤ a.length ∧ (a = b ↔ a.drop i = b.drop i))
    (fun i => [(0, .val (sI a), 0, 0), (1, .val (sI b), 0, 0), (12, .val (pI a.length), 0, 0), (13, .val (pI i), 0, 0)])
    (fun i => a.length - i) ?_ (s := 0) ?_ ?_
  rotate_left
  · simp [hab]
  · simp
  rintro i ⟨hi, hp⟩
  simp -implicitDefEqProofs +contextual (maxSteps := 4000000) [-Int.not_le, -Int.not_lt, -Nat.not_le, -Nat.not_lt, -UInt32.toNat_or, -UInt32.toNat_xor, -UInt32.toNat_and, -UInt8.toNat_or, -UInt8.toNat_xor, -UInt8.toNat_and, -UInt32.toNat_add, -UInt8.toNat_add, -List.map_take, -List.map_drop, ← List.map_take, ← List.map_drop, -List.length_take, -List.length_drop, -List.map_replicate, rep_pY0, rep_pB0, rep_pI0, e_slices_Equal_int.eq_1, Try.results71]
  (repeat' (first | exact (show drawD _ _ = true by decide +kernel) | exact (show _ = List.range' _ _ from rfl) | with_reducible refine and_imp_self' ?_ ?_ | with_reducible refine And.intro ?_ ?_ | with_reducible refine @Exists.intro Nat _ (i + 1) ?_ | with_reducible refine Exists.intro (show (_ : Nat) < _ by omega) ?_ | intro _)) <;> (try (first | omega | (unfold fits; omega) | assumption | with_reducible rfl | (simp only [inR_iff, inR_not, fits_iff] at *; omega)))
  all_goals first
    | (have hds := drop_eq_step (a := a) (b := b) (i := i) (by omega) (by omega); simp_all [Prod.ext_iff, UInt8.toNat_inj]; done)
    | (have h1 := List.drop_of_length_le (l := a) (i := i) (by omega); have h2 := List.drop_of_length_le (l := b) (i := i) (by omega); simp_all; done)
def e_slices_Equal_bool : (List Bool) × (List Bool) → List PV := fun (a, b) => [sB a, sB b]
noncomputable def g_slices_Equal_bool : List PV → Option (PV × List PV) := spec e_slices_Equal_bool (fun (a, b) => a.length < 2 ^ 62 ∧ b.length < 2 ^ 62) fun (a, b) => (pB (decide (a = b)), [])
theorem e_slices_Equal_bool_inj (a b : (List Bool) × (List Bool)) (h : e_slices_Equal_bool a = e_slices_Equal_bool b) : a = b := by
  obtain ⟨a1, b1⟩ := a; obtain ⟨a2, b2⟩ := b; simp [e_slices_Equal_bool, map_pI_inj, map_pB_inj, map_pY_inj, map_pBand_inj, map_sI_inj, Int.natCast_inj, UInt8.toNat_inj, UInt32.toNat_inj] at h; first | exact h | (simp [h]; done) | exact UInt32.toNat_inj.1 (by omega) | exact UInt8.toNat_inj.1 (by omega) | (simp only [Prod.mk.injEq, ← UInt8.toNat_inj, ← UInt32.toNat_inj] at *; omega) | grind
theorem Ok_slices_Equal_bool {a : List Bool} {b : List Bool} {K : PV × List PV → Prop} : Ok (g_slices_Equal_bool [sB a, sB b]) K = ((a.length < 2 ^ 62 ∧ b.length < 2 ^ 62) ∧ K (pB (decide (a = b)), [])) := Ok_spec e_slices_Equal_bool_inj (a, b)
set_option maxHeartbeats 1000000 in
theorem impl_slices_Equal_bool {tbl : Tbl} {G : Nat → Option (List PV)} (hT : Tb tbl G) : Impl Try.prog G 68 (g_slices_Equal_bool) := by
  refine impl_p (E := En tbl G 26 k_slices_Equal_bool []) (c := _) hT mixed Try.func68 rfl rfl (fun a => by simp [e_slices_Equal_bool, pinned.eq_1, pinned.eq_2, PV.isMut.eq_1, PV.isMut.eq_2]) ?_
  rintro ⟨a, b⟩ hok
  refine ⟨by simp [e_slices_Equal_bool], ?_⟩
  replace hok : a.length < 2 ^ 62 ∧ b.length < 2 ^ 62 := hok
  simp -implicitDefEqProofs +contextual (maxSteps := 4000000) [-Int.not_le, -Int.not_lt, -Nat.not_le, -Nat.not_lt, -UInt32.toNat_or, -UInt32.toNat_xor, -UInt32.toNat_and, -UInt8.toNat_or, -UInt8.toNat_xor, -UInt8.toNat_and, -UInt32.toNat_add, -UInt8.toNat_add, -List.map_take, -List.map_drop, ← List.map_take, ← List.map_drop, -List.length_take, -List.length_drop, -List.map_replicate, rep_pY0, rep_pB0, rep_pI0, e_slices_Equal_bool.eq_1, Try.results68, bin_neqb]
  refine ⟨fun h e => h (by rw [e]), fun hab => ?_⟩
  refine loopo (fun i => i ≤ a.length ∧ (a = b ↔ a.drop i = b.drop i))
    (fun i => [(0, .val (sB a), 0, 0), (1, .val (sB b), 0, 0), (12, .val (pI a.length), 0, 0), (13, .val (pI i), 0, 0)])
    (fun i => a.length - i) ?_ (s := 0) ?_ ?_
  rotate_left
  · simp [hab]
  · simp
  rintro i ⟨hi, hp⟩
  simp -implicitDefEqProofs +contextual (maxSteps := 4000000) [-Int.not_le, -Int.not_lt, -Nat.not_le, -Nat.not_lt, -UInt32.toNat_or, -UInt32.toNat_xor, -UInt32.toNat_and, -UInt8.toNat_or, -UInt8.toNat_xor, -UInt8.toNat_and, -UInt32.toNat_add, -UInt8.toNat_add, -List.map_take, -List.map_drop, ← List.map_take, ← List.map_drop, -List.length_take, -List.length_drop, -List.map_replicate, rep_pY0, rep_pB0, rep_pI0, e_slices_Equal_bool.eq_1, Try.results68, bin_neqb]
  (repeat' (first | exact (show drawD _ _ = true by decide +kernel) | exact (show _ = List.range' _ _ from rfl) | with_reducible refine and_imp_self' ?_ ?_ | with_reducible refine And.intro ?_ ?_ | with_reducible refine @Exists.intro Nat _ (i + 1) ?_ | with_reducible refine Exists.intro (show (_ : Nat) < _ by omega) ?_ | intro _)) <;> (try (first | omega | (unfold fits; omega) | assumption | with_reducible rfl | (simp only [inR_iff, inR_not, fits_iff] at *; omega)))
  all_goals first
    | (have hds := drop_eq_step (a := a) (b := b) (i := i) (by omega) (by omega); simp_all [Prod.ext_iff, UInt8.toNat_inj]; done)
    | (have h1 := List.drop_of_length_le (l := a) (i := i) (by omega); have h2 := List.drop_of_length_le (l := b) (i := i) (by omega); simp_all; done)
def e_slices_Equal_Band : (List (Int × Int)) × (List (Int × Int)) → List PV := fun (a, b) => [sBand a, sBand b]
noncomputable def g_slices_Equal_Band : List PV → Option (PV × List PV) := spec e_slices_Equal_Band (fun (a, b) => a.length < 2 ^ 62 ∧ b.length < 2 ^ 62) fun (a, b) => (pB (decide (a = b)), [])
theorem e_slices_Equal_Band_inj (a b : (List (Int × Int)) × (List (Int × Int))) (h : e_slices_Equal_Band a = e_slices_Equal_Band b) : a = b := by
  obtain ⟨a1, b1⟩ := a; obtain ⟨a2, b2⟩ := b; simp [e_slices_Equal_Band, map_pI_inj, map_pB_inj, map_pY_inj, map_pBand_inj, map_sI_inj, Int.natCast_inj, UInt8.toNat_inj, UInt32.toNat_inj] at h; first | exact h | (simp [h]; done) | exact UInt32.toNat_inj.1 (by omega) | exact UInt8.toNat_inj.1 (by omega) | (simp only [Prod.mk.injEq, ← UInt8.toNat_inj, ← UInt32.toNat_inj] at *; omega) | grind
theorem Ok_slices_Equal_Band {a : List (Int × Int)} {b : List (Int × Int)} {K : PV × List PV → Prop} : Ok (g_slices_Equal_Band [sBand a, sBand b]) K = ((a.length < 2 ^ 62 ∧ b.length < 2 ^ 62) ∧ K (pB (decide (a = b)), [])) := Ok_spec e_slices_Equal_Band_inj (a, b)
set_option maxHeartbeats 1000000 in
theorem impl_slices_Equal_Band {tbl : Tbl} {G : Nat → Option (List PV)} (hT : Tb tbl G) : Impl Try.prog G 67 (g_slices_Equal_Band) := by
  refine impl_p (E := En tbl G 26 k_slices_Equal_Band []) (c := _) hT mixed Try.func67 rfl rfl (fun a => by simp [e_slices_Equal_Band, pinned.eq_1, pinned.eq_2, PV.isMut.eq_1, PV.isMut.eq_2]) ?_
  rintro ⟨a, b⟩ hok
  refine ⟨by simp [e_slices_Equal_Band], ?_⟩
  replace hok : a.length < 2 ^ 62 ∧ b.length < 2 ^ 62 := hok
  simp -implicitDefEqProofs +contextual (maxSteps := 4000000) [-Int.not_le, -Int.not_lt, -Nat.not_le, -Nat.not_lt, -UInt32.toNat_or, -UInt32.toNat_xor, -UInt32.toNat_and, -UInt8.toNat_or, -UInt8.toNat_xor, -UInt8.toNat_and, -UInt32.toNat_add, -UInt8.toNat_add, -List.map_take, -List.map_drop, ← List.map_take, ← List.map_drop, -List.length_take, -List.length_drop, -List.map_replicate, rep_pY0, rep_pB0, rep_pI0, e_slices_Equal_Band.eq_1, Try.results67, Prod.ext_iff]
  refine ⟨fun h e => h (by rw [e]), fun hab => ?_⟩
  refine loopo (fun i => i ≤ a.length ∧ (a = b ↔ a.drop i = b.drop i))
    (fun i => [(0, .val (sBand a), 0, 0), (1, .val (sBand b), 0, 0), (12, .val (pI a.length), 0, 0), (13, .val (pI i), 0, 0)])
    (fun i => a.length - i) ?_ (s := 0) ?_ ?_
  rotate_left
  · simp [hab]
  · simp
  rintro i ⟨hi, hp⟩
  simp -implicitDefEqProofs +contextual (maxSteps := 4000000) [-Int.not_le, -Int.not_lt, -Nat.not_le, -Nat.not_lt, -UInt32.toNat_or, -UInt32.toNat_xor, -UInt32.toNat_and, -UInt8.toNat_or, -UInt8.toNat_xor, -UInt8.toNat_and, -UInt32.toNat_add, -UInt8.toNat_add, -List.map_take, -List.map_drop, ← List.map_take, ← List.map_drop, -List.length_take, -List.length_drop, -List.map_replicate, rep_pY0, rep_pB0, rep_pI0, e_slices_Equal_Band.eq_1, Try.results67, Prod.ext_iff]
  (repeat' (first | exact (show drawD _ _ = true by decide +kernel) | exact (show _ = List.range' _ _ from rfl) | with_reducible refine and_imp_self' ?_ ?_ | with_reducible refine And.intro ?_ ?_ | with_reducible refine @Exists.intro Nat _ (i + 1) ?_ | with_reducible refine Exists.intro (show (_ : Nat) < _ by omega) ?_ | intro _)) <;> (try (first | omega | (unfold fits; omega) | assumption | with_reducible rfl | (simp only [inR_iff, inR_not, fits_iff] at *; omega)))
  all_goals first
    | (have hds := drop_eq_step (a := a) (b := b) (i := i) (by omega) (by omega); simp_all [Prod.ext_iff, UInt8.toNat_inj]; done)
    | (have h1 := List.drop_of_length_le (l := a) (i := i) (by omega); have h2 := List.drop_of_length_le (l := b) (i := i) (by omega); simp_all; done)
def e_table_known : Unit → List PV := fun _ => []
noncomputable def g_table_known : List PV → Option (PV × List PV) := spec e_table_known (fun _ => True) fun _ => (.agg [pY 66, pY 82, pY 75, pY 49], [])
theorem e_table_known_inj (a b : Unit) (h : e_table_known a = e_table_known b) : a = b := rfl
theorem Ok_table_known  {K : PV × List PV → Prop} : Ok (g_table_known []) K = ((True) ∧ K (.agg [pY 66, pY 82, pY 75, pY 49], [])) := Ok_spec e_table_known_inj ()
set_option maxHeartbeats 1000000 in
theorem impl_table_known {tbl : Tbl} {G : Nat → Option (List PV)} (hT : Tb tbl G) : Impl Try.prog G 52 (g_table_known) := by
  refine impl_p (E := En tbl G 2 k_table_known []) (c := _) hT mixed Try.func52 rfl rfl (fun a => by simp [e_table_known, pinned.eq_1, pinned.eq_2, PV.isMut.eq_1, PV.isMut.eq_2]) ?_
  rintro - hok
  refine ⟨by simp [e_table_known], ?_⟩
  simp -implicitDefEqProofs +contextual (maxSteps := 4000000) [-Int.not_le, -Int.not_lt, -Nat.not_le, -Nat.not_lt, -UInt32.toNat_or, -UInt32.toNat_xor, -UInt32.toNat_and, -UInt8.toNat_or, -UInt8.toNat_xor, -UInt8.toNat_and, -UInt32.toNat_add, -UInt8.toNat_add, -List.map_take, -List.map_drop, ← List.map_take, ← List.map_drop, -List.length_take, -List.length_drop, -List.map_replicate, rep_pY0, rep_pB0, rep_pI0, e_table_known.eq_1, Try.results52]
def e_ref06_byteOf : Int → List PV := fun n => [pI n]
noncomputable def g_ref06_byteOf : List PV → Option (PV × List PV) := spec e_ref06_byteOf (fun n => True) fun n => (pB (inR n 0 255), [])
theorem e_ref06_byteOf_inj (a b : Int) (h : e_ref06_byteOf a = e_ref06_byteOf b) : a = b := by
  simp [e_ref06_byteOf, map_pI_inj, map_pB_inj, map_pY_inj, map_pBand_inj, map_sI_inj, Int.natCast_inj, UInt8.toNat_inj, UInt32.toNat_inj] at h; first | exact h | (simp [h]; done) | exact UInt32.toNat_inj.1 (by omega) | exact UInt8.toNat_inj.1 (by omega) | (simp only [Prod.mk.injEq, ← UInt8.toNat_inj, ← UInt32.toNat_inj] at *; omega) | grind
theorem Ok_ref06_byteOf {n : Int} {K : PV × List PV → Prop} : Ok (g_ref06_byteOf [pI n]) K = ((True) ∧ K (pB (inR n 0 255), [])) := Ok_spec e_ref06_byteOf_inj n
set_option maxHeartbeats 1000000 in
theorem impl_ref06_byteOf {tbl : Tbl} {G : Nat → Option (List PV)} (hT : Tb tbl G) : Impl Try.prog G 63 (g_ref06_byteOf) := by
  refine impl_p (E := En tbl G 9 k_ref06_byteOf []) (c := _) hT mixed Try.func63 rfl rfl (fun a => by simp [e_ref06_byteOf, pinned.eq_1, pinned.eq_2, PV.isMut.eq_1, PV.isMut.eq_2]) ?_
  rintro n hok
  refine ⟨by simp [e_ref06_byteOf], ?_⟩
  simp -implicitDefEqProofs +contextual (maxSteps := 4000000) [-Int.not_le, -Int.not_lt, -Nat.not_le, -Nat.not_lt, -UInt32.toNat_or, -UInt32.toNat_xor, -UInt32.toNat_and, -UInt8.toNat_or, -UInt8.toNat_xor, -UInt8.toNat_and, -UInt32.toNat_add, -UInt8.toNat_add, -List.map_take, -List.map_drop, ← List.map_take, ← List.map_drop, -List.length_take, -List.length_drop, -List.map_replicate, rep_pY0, rep_pB0, rep_pI0, e_ref06_byteOf.eq_1, Try.results63, inR.eq_1]
def e_ref06_Length : Int × Int × Int → List PV := fun (c, s, b) => [pI c, pI s, pI b]
noncomputable def g_ref06_Length : List PV → Option (PV × List PV) := spec e_ref06_Length (fun (c, s, b) => True) fun (c, s, b) => (pI (lenV c s b), [])
theorem e_ref06_Length_inj (a b : Int × Int × Int) (h : e_ref06_Length a = e_ref06_Length b) : a = b := by
  obtain ⟨c1, s1, b1⟩ := a; obtain ⟨c2, s2, b2⟩ := b; simp [e_ref06_Length, map_pI_inj, map_pB_inj, map_pY_inj, map_pBand_inj, map_sI_inj, Int.natCast_inj, UInt8.toNat_inj, UInt32.toNat_inj] at h; first | exact h | (simp [h]; done) | exact UInt32.toNat_inj.1 (by omega) | exact UInt8.toNat_inj.1 (by omega) | (simp only [Prod.mk.injEq, ← UInt8.toNat_inj, ← UInt32.toNat_inj] at *; omega) | grind
theorem Ok_ref06_Length {c : Int} {s : Int} {b : Int} {K : PV × List PV → Prop} : Ok (g_ref06_Length [pI c, pI s, pI b]) K = ((True) ∧ K (pI (lenV c s b), [])) := Ok_spec e_ref06_Length_inj (c, s, b)
set_option maxHeartbeats 1000000 in
theorem impl_ref06_Length {tbl : Tbl} {G : Nat → Option (List PV)} (hT : Tb tbl G) (h_ref06_byteOf : tbl 63 = g_ref06_byteOf) : Impl Try.prog G 30 (g_ref06_Length) := by
  refine impl_p (E := En tbl G 32 k_ref06_Length []) (c := _) hT mixed Try.func30 rfl rfl (fun a => by simp [e_ref06_Length, pinned.eq_1, pinned.eq_2, PV.isMut.eq_1, PV.isMut.eq_2]) ?_
  rintro ⟨c, s, b⟩ hok
  refine ⟨by simp [e_ref06_Length], ?_⟩
  simp -implicitDefEqProofs +contextual (maxSteps := 4000000) [-Int.not_le, -Int.not_lt, -Nat.not_le, -Nat.not_lt, -UInt32.toNat_or, -UInt32.toNat_xor, -UInt32.toNat_and, -UInt8.toNat_or, -UInt8.toNat_xor, -UInt8.toNat_and, -UInt32.toNat_add, -UInt8.toNat_add, -List.map_take, -List.map_drop, ← List.map_take, ← List.map_drop, -List.length_take, -List.length_drop, -List.map_replicate, rep_pY0, rep_pB0, rep_pI0, e_ref06_Length.eq_1, Try.results30, h_ref06_byteOf, Ok_ref06_byteOf, lenV.eq_1]
  by_cases hc : inR c 0 255 = true
  · by_cases hs : inR s 0 255 = true
    · have i1 := inR_iff.1 hc
      have i2 := inR_iff.1 hs
      have hm : 0 ≤ s * c ∧ s * c ≤ 255 * 255 := ⟨Int.mul_nonneg i2.1 i1.1, Int.mul_le_mul i2.2 i1.2 i1.1 (by decide)⟩
      have hm2 := Int.mul_comm c s
      (repeat' (first | exact (show drawD _ _ = true by decide +kernel) | exact (show _ = List.range' _ _ from rfl) | with_reducible refine and_imp_self' ?_ ?_ | with_reducible refine And.intro ?_ ?_ | with_reducible refine @Exists.intro Nat _ (i + 1) ?_ | with_reducible refine Exists.intro (show (_ : Nat) < _ by omega) ?_ | intro _)) <;> (try (first | omega | (unfold fits; omega) | assumption | with_reducible rfl | (simp only [inR_iff, inR_not, fits_iff] at *; omega)))
    · (repeat' (first | exact (show drawD _ _ = true by decide +kernel) | exact (show _ = List.range' _ _ from rfl) | with_reducible refine and_imp_self' ?_ ?_ | with_reducible refine And.intro ?_ ?_ | with_reducible refine @Exists.intro Nat _ (i + 1) ?_ | with_reducible refine Exists.intro (show (_ : Nat) < _ by omega) ?_ | intro _)) <;> (try (first | omega | (unfold fits; omega) | assumption | with_reducible rfl | (simp only [inR_iff, inR_not, fits_iff] at *; omega)))
  · (repeat' (first | exact (show drawD _ _ = true by decide +kernel) | exact (show _ = List.range' _ _ from rfl) | with_reducible refine and_imp_self' ?_ ?_ | with_reducible refine And.intro ?_ ?_ | with_reducible refine @Exists.intro Nat _ (i + 1) ?_ | with_reducible refine Exists.intro (show (_ : Nat) < _ by omega) ?_ | intro _)) <;> (try (first | omega | (unfold fits; omega) | assumption | with_reducible rfl | (simp only [inR_iff, inR_not, fits_iff] at *; omega)))

end Go.V
