/- A part of the proof of TableFirst: contracts of functions, or what these lean on. No condition. -/
import Derived.Test.YthbmifpfhdlicaaVEq
namespace Go.V
open Go.Proofs
set_option maxRecDepth 8000
set_option linter.unusedSimpArgs false
set_option linter.unusedVariables false
def e_keep_Ints : (List Int) × (List Int) → List PV := fun (a, b) => [sI a, sI b]
noncomputable def g_keep_Ints : List PV → Option (PV × List PV) := spec e_keep_Ints (fun (a, b) => a.length < 2 ^ 62 ∧ b.length < 2 ^ 62) fun (a, b) => (pB (decide (a = b)), [])
theorem e_keep_Ints_inj (a b : (List Int) × (List Int)) (h : e_keep_Ints a = e_keep_Ints b) : a = b := by
  obtain ⟨a1, b1⟩ := a; obtain ⟨a2, b2⟩ := b; simp [e_keep_Ints, map_pI_inj, map_pB_inj, map_pY_inj, map_pBand_inj, map_sI_inj, Int.natCast_inj, UInt8.toNat_inj, UInt32.toNat_inj] at h; first | exact h | (simp [h]; done) | exact UInt32.toNat_inj.1 (by omega) | exact UInt8.toNat_inj.1 (by omega) | (simp only [Prod.mk.injEq, ← UInt8.toNat_inj, ← UInt32.toNat_inj] at *; omega) | grind
theorem Ok_keep_Ints {a : List Int} {b : List Int} {K : PV × List PV → Prop} : Ok (g_keep_Ints [sI a, sI b]) K = ((a.length < 2 ^ 62 ∧ b.length < 2 ^ 62) ∧ K (pB (decide (a = b)), [])) := Ok_spec e_keep_Ints_inj (a, b)
set_option maxHeartbeats 1000000 in
theorem impl_keep_Ints {tbl : Tbl} {G : Nat → Option (List PV)} (hT : Tb tbl G) : Impl Try.prog G 45 (g_keep_Ints) := by
  refine impl_p (E := En tbl G 26 k_keep_Ints []) (c := _) hT mixed Try.func45 rfl rfl (fun a => by simp [e_keep_Ints, pinned.eq_1, pinned.eq_2, PV.isMut.eq_1, PV.isMut.eq_2]) ?_
  rintro ⟨a, b⟩ hok
  refine ⟨by simp [e_keep_Ints], ?_⟩
  replace hok : a.length < 2 ^ 62 ∧ b.length < 2 ^ 62 := hok
  simp -implicitDefEqProofs +contextual (maxSteps := 4000000) [-Int.not_le, -Int.not_lt, -Nat.not_le, -Nat.not_lt, -UInt32.toNat_or, -UInt32.toNat_xor, -UInt32.toNat_and, -UInt8.toNat_or, -UInt8.toNat_xor, -UInt8.toNat_and, -UInt32.toNat_add, -UInt8.toNat_add, -List.map_take, -List.map_drop, ← List.map_take, ← List.map_drop, -List.length_take, -List.length_drop, -List.map_replicate, rep_pY0, rep_pB0, rep_pI0, e_keep_Ints.eq_1, Try.results45]
  refine ⟨fun h e => h (by rw [e]), fun hab => ?_⟩
  refine loopo (fun i => i ≤ a.length ∧ (a = b ↔ a.drop i = b.drop i))
    (fun i => [(0, .val (sI a), 0, 0), (1, .val (sI b), 0, 0), (5, .val (pI i), 0, 0)])
    (fun i => a.length - i) ?_ (s := 0) rfl (by simp)
  rintro i ⟨hi, hp⟩
  simp -implicitDefEqProofs +contextual (maxSteps := 4000000) [-Int.not_le, -Int.not_lt, -Nat.not_le, -Nat.not_lt, -UInt32.toNat_or, -UInt32.toNat_xor, -UInt32.toNat_and, -UInt8.toNat_or, -UInt8.toNat_xor, -UInt8.toNat_and, -UInt32.toNat_add, -UInt8.toNat_add, -List.map_take, -List.map_drop, ← List.map_take, ← List.map_drop, -List.length_take, -List.length_drop, -List.map_replicate, rep_pY0, rep_pB0, rep_pI0, e_keep_Ints.eq_1, Try.results45]
  (repeat' (first | exact (show drawD _ _ = true by decide +kernel) | exact (show _ = List.range' _ _ from rfl) | with_reducible refine and_imp_self' ?_ ?_ | with_reducible refine And.intro ?_ ?_ | with_reducible refine @Exists.intro Nat _ (i + 1) ?_ | with_reducible refine Exists.intro (show (_ : Nat) < _ by omega) ?_ | intro _)) <;> (try (first | omega | (unfold fits; omega) | assumption | with_reducible rfl | (simp only [inR_iff, inR_not, fits_iff] at *; omega)))
  all_goals first
    | (have := drop_eq_step (a := a) (b := b) (i := i) (by omega) (by omega); simp_all [Prod.ext_iff, UInt8.toNat_inj]; done)
    | (have h1 := List.drop_of_length_le (l := a) (i := i) (by omega); have h2 := List.drop_of_length_le (l := b) (i := i) (by omega); simp_all; done)
def e_keep_Bools : (List Bool) × (List Bool) → List PV := fun (a, b) => [sB a, sB b]
noncomputable def g_keep_Bools : List PV → Option (PV × List PV) := spec e_keep_Bools (fun (a, b) => a.length < 2 ^ 62 ∧ b.length < 2 ^ 62) fun (a, b) => (pB (decide (a = b)), [])
theorem e_keep_Bools_inj (a b : (List Bool) × (List Bool)) (h : e_keep_Bools a = e_keep_Bools b) : a = b := by
  obtain ⟨a1, b1⟩ := a; obtain ⟨a2, b2⟩ := b; simp [e_keep_Bools, map_pI_inj, map_pB_inj, map_pY_inj, map_pBand_inj, map_sI_inj, Int.natCast_inj, UInt8.toNat_inj, UInt32.toNat_inj] at h; first | exact h | (simp [h]; done) | exact UInt32.toNat_inj.1 (by omega) | exact UInt8.toNat_inj.1 (by omega) | (simp only [Prod.mk.injEq, ← UInt8.toNat_inj, ← UInt32.toNat_inj] at *; omega) | grind
theorem Ok_keep_Bools {a : List Bool} {b : List Bool} {K : PV × List PV → Prop} : Ok (g_keep_Bools [sB a, sB b]) K = ((a.length < 2 ^ 62 ∧ b.length < 2 ^ 62) ∧ K (pB (decide (a = b)), [])) := Ok_spec e_keep_Bools_inj (a, b)
set_option maxHeartbeats 1000000 in
theorem impl_keep_Bools {tbl : Tbl} {G : Nat → Option (List PV)} (hT : Tb tbl G) : Impl Try.prog G 61 (g_keep_Bools) := by
  refine impl_p (E := En tbl G 26 k_keep_Bools []) (c := _) hT mixed Try.func61 rfl rfl (fun a => by simp [e_keep_Bools, pinned.eq_1, pinned.eq_2, PV.isMut.eq_1, PV.isMut.eq_2]) ?_
  rintro ⟨a, b⟩ hok
  refine ⟨by simp [e_keep_Bools], ?_⟩
  replace hok : a.length < 2 ^ 62 ∧ b.length < 2 ^ 62 := hok
  simp -implicitDefEqProofs +contextual (maxSteps := 4000000) [-Int.not_le, -Int.not_lt, -Nat.not_le, -Nat.not_lt, -UInt32.toNat_or, -UInt32.toNat_xor, -UInt32.toNat_and, -UInt8.toNat_or, -UInt8.toNat_xor, -UInt8.toNat_and, -UInt32.toNat_add, -UInt8.toNat_add, -List.map_take, -List.map_drop, ← List.map_take, ← List.map_drop, -List.length_take, -List.length_drop, -List.map_replicate, rep_pY0, rep_pB0, rep_pI0, e_keep_Bools.eq_1, Try.results61, bin_neqb]
  refine ⟨fun h e => h (by rw [e]), fun hab => ?_⟩
  refine loopo (fun i => i ≤ a.length ∧ (a = b ↔ a.drop i = b.drop i))
    (fun i => [(0, .val (sB a), 0, 0), (1, .val (sB b), 0, 0), (5, .val (pI i), 0, 0)])
    (fun i => a.length - i) ?_ (s := 0) rfl (by simp)
  rintro i ⟨hi, hp⟩
  simp -implicitDefEqProofs +contextual (maxSteps := 4000000) [-Int.not_le, -Int.not_lt, -Nat.not_le, -Nat.not_lt, -UInt32.toNat_or, -UInt32.toNat_xor, -UInt32.toNat_and, -UInt8.toNat_or, -UInt8.toNat_xor, -UInt8.toNat_and, -UInt32.toNat_add, -UInt8.toNat_add, -List.map_take, -List.map_drop, ← List.map_take, ← List.map_drop, -List.length_take, -List.length_drop, -List.map_replicate, rep_pY0, rep_pB0, rep_pI0, e_keep_Bools.eq_1, Try.results61, bin_neqb]
  (repeat' (first | exact (show drawD _ _ = true by decide +kernel) | exact (show _ = List.range' _ _ from rfl) | with_reducible refine and_imp_self' ?_ ?_ | with_reducible refine And.intro ?_ ?_ | with_reducible refine @Exists.intro Nat _ (i + 1) ?_ | with_reducible refine Exists.intro (show (_ : Nat) < _ by omega) ?_ | intro _)) <;> (try (first | omega | (unfold fits; omega) | assumption | with_reducible rfl | (simp only [inR_iff, inR_not, fits_iff] at *; omega)))
  all_goals first
    | (have := drop_eq_step (a := a) (b := b) (i := i) (by omega) (by omega); simp_all [Prod.ext_iff, UInt8.toNat_inj]; done)
    | (have h1 := List.drop_of_length_le (l := a) (i := i) (by omega); have h2 := List.drop_of_length_le (l := b) (i := i) (by omega); simp_all; done)
def e_keep_Bands : (List (Int × Int)) × (List (Int × Int)) → List PV := fun (a, b) => [sBand a, sBand b]
noncomputable def g_keep_Bands : List PV → Option (PV × List PV) := spec e_keep_Bands (fun (a, b) => a.length < 2 ^ 62 ∧ b.length < 2 ^ 62) fun (a, b) => (pB (decide (a = b)), [])
theorem e_keep_Bands_inj (a b : (List (Int × Int)) × (List (Int × Int))) (h : e_keep_Bands a = e_keep_Bands b) : a = b := by
  obtain ⟨a1, b1⟩ := a; obtain ⟨a2, b2⟩ := b; simp [e_keep_Bands, map_pI_inj, map_pB_inj, map_pY_inj, map_pBand_inj, map_sI_inj, Int.natCast_inj, UInt8.toNat_inj, UInt32.toNat_inj] at h; first | exact h | (simp [h]; done) | exact UInt32.toNat_inj.1 (by omega) | exact UInt8.toNat_inj.1 (by omega) | (simp only [Prod.mk.injEq, ← UInt8.toNat_inj, ← UInt32.toNat_inj] at *; omega) | grind
theorem Ok_keep_Bands {a : List (Int × Int)} {b : List (Int × Int)} {K : PV × List PV → Prop} : Ok (g_keep_Bands [sBand a, sBand b]) K = ((a.length < 2 ^ 62 ∧ b.length < 2 ^ 62) ∧ K (pB (decide (a = b)), [])) := Ok_spec e_keep_Bands_inj (a, b)
set_option maxHeartbeats 1000000 in
theorem impl_keep_Bands {tbl : Tbl} {G : Nat → Option (List PV)} (hT : Tb tbl G) : Impl Try.prog G 37 (g_keep_Bands) := by
  refine impl_p (E := En tbl G 26 k_keep_Bands []) (c := _) hT mixed Try.func37 rfl rfl (fun a => by simp [e_keep_Bands, pinned.eq_1, pinned.eq_2, PV.isMut.eq_1, PV.isMut.eq_2]) ?_
  rintro ⟨a, b⟩ hok
  refine ⟨by simp [e_keep_Bands], ?_⟩
  replace hok : a.length < 2 ^ 62 ∧ b.length < 2 ^ 62 := hok
  simp -implicitDefEqProofs +contextual (maxSteps := 4000000) [-Int.not_le, -Int.not_lt, -Nat.not_le, -Nat.not_lt, -UInt32.toNat_or, -UInt32.toNat_xor, -UInt32.toNat_and, -UInt8.toNat_or, -UInt8.toNat_xor, -UInt8.toNat_and, -UInt32.toNat_add, -UInt8.toNat_add, -List.map_take, -List.map_drop, ← List.map_take, ← List.map_drop, -List.length_take, -List.length_drop, -List.map_replicate, rep_pY0, rep_pB0, rep_pI0, e_keep_Bands.eq_1, Try.results37, Prod.ext_iff]
  refine ⟨fun h e => h (by rw [e]), fun hab => ?_⟩
  refine loopo (fun i => i ≤ a.length ∧ (a = b ↔ a.drop i = b.drop i))
    (fun i => [(0, .val (sBand a), 0, 0), (1, .val (sBand b), 0, 0), (5, .val (pI i), 0, 0)])
    (fun i => a.length - i) ?_ (s := 0) rfl (by simp)
  rintro i ⟨hi, hp⟩
  simp -implicitDefEqProofs +contextual (maxSteps := 4000000) [-Int.not_le, -Int.not_lt, -Nat.not_le, -Nat.not_lt, -UInt32.toNat_or, -UInt32.toNat_xor, -UInt32.toNat_and, -UInt8.toNat_or, -UInt8.toNat_xor, -UInt8.toNat_and, -UInt32.toNat_add, -UInt8.toNat_add, -List.map_take, -List.map_drop, ← List.map_take, ← List.map_drop, -List.length_take, -List.length_drop, -List.map_replicate, rep_pY0, rep_pB0, rep_pI0, e_keep_Bands.eq_1, Try.results37, Prod.ext_iff]
  (repeat' (first | exact (show drawD _ _ = true by decide +kernel) | exact (show _ = List.range' _ _ from rfl) | with_reducible refine and_imp_self' ?_ ?_ | with_reducible refine And.intro ?_ ?_ | with_reducible refine @Exists.intro Nat _ (i + 1) ?_ | with_reducible refine Exists.intro (show (_ : Nat) < _ by omega) ?_ | intro _)) <;> (try (first | omega | (unfold fits; omega) | assumption | with_reducible rfl | (simp only [inR_iff, inR_not, fits_iff] at *; omega)))
  all_goals first
    | (have := drop_eq_step (a := a) (b := b) (i := i) (by omega) (by omega); simp_all [Prod.ext_iff, UInt8.toNat_inj]; done)
    | (have h1 := List.drop_of_length_le (l := a) (i := i) (by omega); have h2 := List.drop_of_length_le (l := b) (i := i) (by omega); simp_all; done)
def e_keep_Lists : (List (List Int)) × (List (List Int)) → List PV := fun (a, b) => [sII a, sII b]
noncomputable def g_keep_Lists : List PV → Option (PV × List PV) := spec e_keep_Lists (fun (a, b) => (a.length < 2 ^ 62 ∧ b.length < 2 ^ 62) ∧ (∀ x ∈ a, x.length < 2 ^ 62) ∧ ∀ x ∈ b, x.length < 2 ^ 62) fun (a, b) => (pB (decide (a = b)), [])
theorem e_keep_Lists_inj (a b : (List (List Int)) × (List (List Int))) (h : e_keep_Lists a = e_keep_Lists b) : a = b := by
  obtain ⟨a1, b1⟩ := a; obtain ⟨a2, b2⟩ := b; simp [e_keep_Lists, map_pI_inj, map_pB_inj, map_pY_inj, map_pBand_inj, map_sI_inj, Int.natCast_inj, UInt8.toNat_inj, UInt32.toNat_inj] at h; first | exact h | (simp [h]; done) | exact UInt32.toNat_inj.1 (by omega) | exact UInt8.toNat_inj.1 (by omega) | (simp only [Prod.mk.injEq, ← UInt8.toNat_inj, ← UInt32.toNat_inj] at *; omega) | grind
theorem Ok_keep_Lists {a : List (List Int)} {b : List (List Int)} {K : PV × List PV → Prop} : Ok (g_keep_Lists [sII a, sII b]) K = (((a.length < 2 ^ 62 ∧ b.length < 2 ^ 62) ∧ (∀ x ∈ a, x.length < 2 ^ 62) ∧ ∀ x ∈ b, x.length < 2 ^ 62) ∧ K (pB (decide (a = b)), [])) := Ok_spec e_keep_Lists_inj (a, b)
set_option maxHeartbeats 1000000 in
theorem impl_keep_Lists {tbl : Tbl} {G : Nat → Option (List PV)} (hT : Tb tbl G) (h_keep_Ints : tbl 45 = g_keep_Ints) : Impl Try.prog G 60 (g_keep_Lists) := by
  refine impl_p (E := En tbl G 27 k_keep_Lists []) (c := _) hT mixed Try.func60 rfl rfl (fun a => by simp [e_keep_Lists, pinned.eq_1, pinned.eq_2, PV.isMut.eq_1, PV.isMut.eq_2]) ?_
  rintro ⟨a, b⟩ hok
  refine ⟨by simp [e_keep_Lists], ?_⟩
  replace hok : (a.length < 2 ^ 62 ∧ b.length < 2 ^ 62) ∧ (∀ x ∈ a, x.length < 2 ^ 62) ∧ ∀ x ∈ b, x.length < 2 ^ 62 := hok
  simp -implicitDefEqProofs +contextual (maxSteps := 4000000) [-Int.not_le, -Int.not_lt, -Nat.not_le, -Nat.not_lt, -UInt32.toNat_or, -UInt32.toNat_xor, -UInt32.toNat_and, -UInt8.toNat_or, -UInt8.toNat_xor, -UInt8.toNat_and, -UInt32.toNat_add, -UInt8.toNat_add, -List.map_take, -List.map_drop, ← List.map_take, ← List.map_drop, -List.length_take, -List.length_drop, -List.map_replicate, rep_pY0, rep_pB0, rep_pI0, e_keep_Lists.eq_1, Try.results60, h_keep_Ints, Ok_keep_Ints]
  refine ⟨fun h e => h (by rw [e]), fun hab => ?_⟩
  refine loopo (fun i => i ≤ a.length ∧ (a = b ↔ a.drop i = b.drop i))
    (fun i => [(0, .val (sII a), 0, 0), (1, .val (sII b), 0, 0), (5, .val (pI i), 0, 0)])
    (fun i => a.length - i) ?_ (s := 0) rfl (by simp)
  rintro i ⟨hi, hp⟩
  simp -implicitDefEqProofs +contextual (maxSteps := 4000000) [-Int.not_le, -Int.not_lt, -Nat.not_le, -Nat.not_lt, -UInt32.toNat_or, -UInt32.toNat_xor, -UInt32.toNat_and, -UInt8.toNat_or, -UInt8.toNat_xor, -UInt8.toNat_and, -UInt32.toNat_add, -UInt8.toNat_add, -List.map_take, -List.map_drop, ← List.map_take, ← List.map_drop, -List.length_take, -List.length_drop, -List.map_replicate, rep_pY0, rep_pB0, rep_pI0, e_keep_Lists.eq_1, Try.results60, h_keep_Ints, Ok_keep_Ints]
  (repeat' (first | exact (show drawD _ _ = true by decide +kernel) | exact (show _ = List.range' _ _ from rfl) | with_reducible refine and_imp_self' ?_ ?_ | with_reducible refine And.intro ?_ ?_ | with_reducible refine @Exists.intro Nat _ (i + 1) ?_ | with_reducible refine Exists.intro (show (_ : Nat) < _ by omega) ?_ | intro _)) <;> (try (first | omega | (unfold fits; omega) | assumption | with_reducible rfl | (simp only [inR_iff, inR_not, fits_iff] at *; omega)))
  all_goals first
    | exact hok.2.1 _ (List.getElem_mem _)
    | exact hok.2.2 _ (List.getElem_mem _)
    | (have := drop_eq_step (a := a) (b := b) (i := i) (by omega) (by omega); simp_all; done)
    | (have h1 := List.drop_of_length_le (l := a) (i := i) (by omega); have h2 := List.drop_of_length_le (l := b) (i := i) (by omega); simp_all; done)
def e_keep_Bytes : (List UInt8) × (List UInt8) → List PV := fun (a, b) => [sY a, sY b]
noncomputable def g_keep_Bytes : List PV → Option (PV × List PV) := spec e_keep_Bytes (fun (a, b) => True) fun (a, b) => (pB (a == b), [])
theorem e_keep_Bytes_inj (a b : (List UInt8) × (List UInt8)) (h : e_keep_Bytes a = e_keep_Bytes b) : a = b := by
  obtain ⟨a1, b1⟩ := a; obtain ⟨a2, b2⟩ := b; simp [e_keep_Bytes, map_pI_inj, map_pB_inj, map_pY_inj, map_pBand_inj, map_sI_inj, Int.natCast_inj, UInt8.toNat_inj, UInt32.toNat_inj] at h; first | exact h | (simp [h]; done) | exact UInt32.toNat_inj.1 (by omega) | exact UInt8.toNat_inj.1 (by omega) | (simp only [Prod.mk.injEq, ← UInt8.toNat_inj, ← UInt32.toNat_inj] at *; omega) | grind
theorem Ok_keep_Bytes {a : List UInt8} {b : List UInt8} {K : PV × List PV → Prop} : Ok (g_keep_Bytes [sY a, sY b]) K = ((True) ∧ K (pB (a == b), [])) := Ok_spec e_keep_Bytes_inj (a, b)
set_option maxHeartbeats 1000000 in
theorem impl_keep_Bytes {tbl : Tbl} {G : Nat → Option (List PV)} (hT : Tb tbl G) : Impl Try.prog G 25 (g_keep_Bytes) := by
  refine impl_p (E := En tbl G 10 k_keep_Bytes []) (c := _) hT mixed Try.func25 rfl rfl (fun a => by simp [e_keep_Bytes, pinned.eq_1, pinned.eq_2, PV.isMut.eq_1, PV.isMut.eq_2]) ?_
  rintro ⟨a, b⟩ hok
  refine ⟨by simp [e_keep_Bytes], ?_⟩
  simp -implicitDefEqProofs +contextual (maxSteps := 4000000) [-Int.not_le, -Int.not_lt, -Nat.not_le, -Nat.not_lt, -UInt32.toNat_or, -UInt32.toNat_xor, -UInt32.toNat_and, -UInt8.toNat_or, -UInt8.toNat_xor, -UInt8.toNat_and, -UInt32.toNat_add, -UInt8.toNat_add, -List.map_take, -List.map_drop, ← List.map_take, ← List.map_drop, -List.length_take, -List.length_drop, -List.map_replicate, rep_pY0, rep_pB0, rep_pI0, e_keep_Bytes.eq_1, Try.results25]
 def small (t : Tab) : Prop := (t.bands.length < 2 ^ 40 ∧ t.next.length < 2 ^ 40 ∧ t.brk.length < 2 ^ 40) ∧ ∀ x ∈ t.next, x.length < 2 ^ 40
def e_keep_Table : Tab × Tab → List PV := fun (t, u) => [pT t, pT u]
noncomputable def g_keep_Table : List PV → Option (PV × List PV) := spec e_keep_Table (fun (t, u) => small t ∧ small u) fun (t, u) => (pB (decide (t = u)), [])
theorem e_keep_Table_inj (a b : Tab × Tab) (h : e_keep_Table a = e_keep_Table b) : a = b := by
  obtain ⟨⟨t1a, t1b, t1c, t1d⟩, ⟨u1a, u1b, u1c, u1d⟩⟩ := a; obtain ⟨⟨t2a, t2b, t2c, t2d⟩, ⟨u2a, u2b, u2c, u2d⟩⟩ := b; simp [e_keep_Table, map_pI_inj, map_pB_inj, map_pY_inj, map_pBand_inj, map_sI_inj, Int.natCast_inj, UInt8.toNat_inj, UInt32.toNat_inj] at h; first | exact h | (simp [h]; done) | exact UInt32.toNat_inj.1 (by omega) | exact UInt8.toNat_inj.1 (by omega) | (simp only [Prod.mk.injEq, ← UInt8.toNat_inj, ← UInt32.toNat_inj] at *; omega) | grind
theorem Ok_keep_Table {t : Tab} {u : Tab} {K : PV × List PV → Prop} : Ok (g_keep_Table [pT t, pT u]) K = ((small t ∧ small u) ∧ K (pB (decide (t = u)), [])) := Ok_spec e_keep_Table_inj (t, u)
set_option maxHeartbeats 1000000 in
theorem impl_keep_Table {tbl : Tbl} {G : Nat → Option (List PV)} (hT : Tb tbl G) (h_keep_Bands : tbl 37 = g_keep_Bands) (h_keep_Lists : tbl 60 = g_keep_Lists) (h_keep_Bools : tbl 61 = g_keep_Bools) : Impl Try.prog G 24 (g_keep_Table) := by
  refine impl_p (E := En tbl G 31 k_keep_Table []) (c := _) hT mixed Try.func24 rfl rfl (fun a => by simp [e_keep_Table, pinned.eq_1, pinned.eq_2, PV.isMut.eq_1, PV.isMut.eq_2]) ?_
  rintro ⟨t, u⟩ hok
  refine ⟨by simp [e_keep_Table], ?_⟩
  replace hok : small t ∧ small u := hok
  unfold small at hok
  simp -implicitDefEqProofs +contextual (maxSteps := 4000000) [-Int.not_le, -Int.not_lt, -Nat.not_le, -Nat.not_lt, -UInt32.toNat_or, -UInt32.toNat_xor, -UInt32.toNat_and, -UInt8.toNat_or, -UInt8.toNat_xor, -UInt8.toNat_and, -UInt32.toNat_add, -UInt8.toNat_add, -List.map_take, -List.map_drop, ← List.map_take, ← List.map_drop, -List.length_take, -List.length_drop, -List.map_replicate, rep_pY0, rep_pB0, rep_pI0, e_keep_Table.eq_1, Try.results24, h_keep_Bands, Ok_keep_Bands, h_keep_Lists, Ok_keep_Lists, h_keep_Bools, Ok_keep_Bools]
  (repeat' (first | exact (show drawD _ _ = true by decide +kernel) | exact (show _ = List.range' _ _ from rfl) | with_reducible refine and_imp_self' ?_ ?_ | with_reducible refine And.intro ?_ ?_ | with_reducible refine @Exists.intro Nat _ (i + 1) ?_ | with_reducible refine Exists.intro (show (_ : Nat) < _ by omega) ?_ | intro _)) <;> (try (first | omega | (unfold fits; omega) | assumption | with_reducible rfl | (simp only [inR_iff, inR_not, fits_iff] at *; omega)))
  all_goals first
    | (have h1 := hok.1.2 _ ‹_›; omega)
    | (have h1 := hok.2.2 _ ‹_›; omega)
    | (obtain ⟨a1, a2, a3, a4⟩ := t; obtain ⟨b1, b2, b3, b4⟩ := u; simp_all; done)

end Go.V
