/- A part of the proof of SegmentWhole: contracts of functions, or what these lean on. No condition. -/
import Derived.Test.YtldoffdakikaeaaDoorVArr
namespace Go.V
open Go.Proofs
set_option maxRecDepth 8000
set_option linter.unusedSimpArgs false
set_option linter.unusedVariables false
def e_slices_IndexFunc_int : (List Int) × FuncId × (List PV) → List PV := fun (l, f, caps) => [sI l, .fn f caps]
noncomputable def g_slices_IndexFunc_int (tbl : Tbl) : List PV → Option (PV × List PV) := spec e_slices_IndexFunc_int (fun (l, f, caps) => (l.length < 2 ^ 63 ∧ noOwnL caps = true ∧ callable Tryd.prog f = true) ∧ ∀ x ∈ l, tbOk tbl f caps (pI x)) fun (l, f, caps) => (pI (idx (fun x => tb tbl f caps (pI x)) l), [])
theorem e_slices_IndexFunc_int_inj (a b : (List Int) × FuncId × (List PV)) (h : e_slices_IndexFunc_int a = e_slices_IndexFunc_int b) : a = b := by
  obtain ⟨l1, f1, caps1⟩ := a; obtain ⟨l2, f2, caps2⟩ := b; simp [e_slices_IndexFunc_int, map_pI_inj, map_pB_inj, map_pY_inj, map_pBand_inj, map_sI_inj, str_inj, Int.natCast_inj, UInt8.toNat_inj, UInt32.toNat_inj] at h; first | exact h | (simp [h]; done) | exact UInt32.toNat_inj.1 (by omega) | exact UInt8.toNat_inj.1 (by omega) | (simp only [Prod.mk.injEq, ← UInt8.toNat_inj, ← UInt32.toNat_inj] at *; omega) | grind
theorem Ok_slices_IndexFunc_int (tbl : Tbl) {l : List Int} {f : FuncId} {caps : List PV} {K : PV × List PV → Prop} : Ok (g_slices_IndexFunc_int tbl [sI l, .fn f caps]) K = (((l.length < 2 ^ 63 ∧ noOwnL caps = true ∧ callable Tryd.prog f = true) ∧ ∀ x ∈ l, tbOk tbl f caps (pI x)) ∧ K (pI (idx (fun x => tb tbl f caps (pI x)) l), [])) := Ok_spec e_slices_IndexFunc_int_inj (l, f, caps)
set_option maxHeartbeats 1000000 in
theorem impl_slices_IndexFunc_int {tbl : Tbl} {G : Nat → Option (List PV)} (hT : Tb tbl G) : Impl Tryd.prog G 91 (g_slices_IndexFunc_int tbl) := by
  refine impl_p (E := En tbl G 19 k_slices_IndexFunc_int []) (c := _) hT mixed Tryd.func91 rfl rfl (fun a => by simp [e_slices_IndexFunc_int, pinned.eq_1, pinned.eq_2, PV.isMut.eq_1, PV.isMut.eq_2]) ?_
  rintro ⟨l, f, caps⟩ hok
  refine ⟨by simp [e_slices_IndexFunc_int], ?_⟩
  replace hok : (l.length < 2 ^ 63 ∧ noOwnL caps = true ∧ callable Tryd.prog f = true) ∧ ∀ x ∈ l, tbOk tbl f caps (pI x) := hok
  obtain ⟨⟨hl, hc, hcal⟩, hok⟩ := hok
  simp -implicitDefEqProofs +contextual (maxSteps := 4000000) [-Int.not_le, -Int.not_lt, -Nat.not_le, -Nat.not_lt, -UInt32.toNat_or, -UInt32.toNat_xor, -UInt32.toNat_and, -UInt8.toNat_or, -UInt8.toNat_xor, -UInt8.toNat_and, -UInt32.toNat_add, -UInt8.toNat_add, -List.map_take, -List.map_drop, ← List.map_take, ← List.map_drop, -List.length_take, -List.length_drop, -List.map_replicate, rep_pY0, rep_pB0, rep_pI0, e_slices_IndexFunc_int.eq_1, Tryd.results91, hc, hcal]
  refine loopo (fun i => i ≤ l.length ∧ ∀ j (hj : j < i) (hl : j < l.length), tb tbl f caps (pI l[j]) = false)
    (fun i => [(0, .val (sI l), 0, 0), (1, .val (.fn f caps), 0, 0), (7, .val (pI l.length), 0, 0), (8, .val (pI i), 0, 0)])
    (fun i => l.length - i) ?_ (s := 0) rfl (by simp)
  rintro i ⟨hi, hp⟩
  have hcall : ∀ (i : Nat) (h : i < l.length), tbl f ((pI l[i]) :: caps) = some (pB (tb tbl f caps (pI l[i])), []) := fun i h => hok _ (List.getElem_mem h)
  simp -implicitDefEqProofs +contextual (maxSteps := 4000000) [-Int.not_le, -Int.not_lt, -Nat.not_le, -Nat.not_lt, -UInt32.toNat_or, -UInt32.toNat_xor, -UInt32.toNat_and, -UInt8.toNat_or, -UInt8.toNat_xor, -UInt8.toNat_and, -UInt32.toNat_add, -UInt8.toNat_add, -List.map_take, -List.map_drop, ← List.map_take, ← List.map_drop, -List.length_take, -List.length_drop, -List.map_replicate, rep_pY0, rep_pB0, rep_pI0, e_slices_IndexFunc_int.eq_1, Tryd.results91, hc, hcal, hcall]
  (repeat' (first | exact (show drawD _ _ = true by decide +kernel) | exact (show _ = List.range' _ _ from rfl) | with_reducible refine and_imp_self' ?_ ?_ | with_reducible refine And.intro ?_ ?_ | with_reducible refine @Exists.intro Nat _ (i + 1) ?_ | with_reducible refine Exists.intro (show (_ : Nat) < _ by omega) ?_ | intro _)) <;> (try (first | omega | (unfold fits; omega) | assumption | with_reducible rfl | (simp only [inR_iff, inR_not, fits_iff] at *; omega)))
  · exact (idx_at ‹_› ‹_› fun j hj => hp j hj _).symm
  · rename_i j hj hjl
    rcases Nat.lt_or_ge j i with h | h
    · exact hp j h hjl
    · obtain rfl : j = i := by omega
      assumption
  · exact (idx_none fun j hj => hp j (by omega) hj).symm
def e_slices_ContainsFunc_int : (List Int) × FuncId × (List PV) → List PV := fun (l, f, caps) => [sI l, .fn f caps]
noncomputable def g_slices_ContainsFunc_int (tbl : Tbl) : List PV → Option (PV × List PV) := spec e_slices_ContainsFunc_int (fun (l, f, caps) => (l.length < 2 ^ 63 ∧ noOwnL caps = true ∧ callable Tryd.prog f = true) ∧ ∀ x ∈ l, tbOk tbl f caps (pI x)) fun (l, f, caps) => (pB (l.any fun x => tb tbl f caps (pI x)), [])
theorem e_slices_ContainsFunc_int_inj (a b : (List Int) × FuncId × (List PV)) (h : e_slices_ContainsFunc_int a = e_slices_ContainsFunc_int b) : a = b := by
  obtain ⟨l1, f1, caps1⟩ := a; obtain ⟨l2, f2, caps2⟩ := b; simp [e_slices_ContainsFunc_int, map_pI_inj, map_pB_inj, map_pY_inj, map_pBand_inj, map_sI_inj, str_inj, Int.natCast_inj, UInt8.toNat_inj, UInt32.toNat_inj] at h; first | exact h | (simp [h]; done) | exact UInt32.toNat_inj.1 (by omega) | exact UInt8.toNat_inj.1 (by omega) | (simp only [Prod.mk.injEq, ← UInt8.toNat_inj, ← UInt32.toNat_inj] at *; omega) | grind
theorem Ok_slices_ContainsFunc_int (tbl : Tbl) {l : List Int} {f : FuncId} {caps : List PV} {K : PV × List PV → Prop} : Ok (g_slices_ContainsFunc_int tbl [sI l, .fn f caps]) K = (((l.length < 2 ^ 63 ∧ noOwnL caps = true ∧ callable Tryd.prog f = true) ∧ ∀ x ∈ l, tbOk tbl f caps (pI x)) ∧ K (pB (l.any fun x => tb tbl f caps (pI x)), [])) := Ok_spec e_slices_ContainsFunc_int_inj (l, f, caps)
set_option maxHeartbeats 1000000 in
theorem impl_slices_ContainsFunc_int {tbl : Tbl} {G : Nat → Option (List PV)} (hT : Tb tbl G) {T0 : Tbl} (h_slices_IndexFunc_int : tbl 91 = g_slices_IndexFunc_int T0) : Impl Tryd.prog G 84 (g_slices_ContainsFunc_int T0) := by
  refine impl_p (E := En tbl G 9 k_slices_ContainsFunc_int []) (c := _) hT mixed Tryd.func84 rfl rfl (fun a => by simp [e_slices_ContainsFunc_int, pinned.eq_1, pinned.eq_2, PV.isMut.eq_1, PV.isMut.eq_2]) ?_
  rintro ⟨l, f, caps⟩ hok
  refine ⟨by simp [e_slices_ContainsFunc_int], ?_⟩
  replace hok : (l.length < 2 ^ 63 ∧ noOwnL caps = true ∧ callable Tryd.prog f = true) ∧ ∀ x ∈ l, tbOk T0 f caps (pI x) := hok
  obtain ⟨⟨hl, hc, hcal⟩, hok⟩ := hok
  simp -implicitDefEqProofs +contextual (maxSteps := 4000000) [-Int.not_le, -Int.not_lt, -Nat.not_le, -Nat.not_lt, -UInt32.toNat_or, -UInt32.toNat_xor, -UInt32.toNat_and, -UInt8.toNat_or, -UInt8.toNat_xor, -UInt8.toNat_and, -UInt32.toNat_add, -UInt8.toNat_add, -List.map_take, -List.map_drop, ← List.map_take, ← List.map_drop, -List.length_take, -List.length_drop, -List.map_replicate, rep_pY0, rep_pB0, rep_pI0, e_slices_ContainsFunc_int.eq_1, Tryd.results84, h_slices_IndexFunc_int, Ok_slices_IndexFunc_int, hc, hcal, idx_nonneg]
  exact ⟨hl, hok⟩
def e_slices_IndexFunc_s_int : (List (List Int)) × FuncId × (List PV) → List PV := fun (l, f, caps) => [sII l, .fn f caps]
noncomputable def g_slices_IndexFunc_s_int (tbl : Tbl) : List PV → Option (PV × List PV) := spec e_slices_IndexFunc_s_int (fun (l, f, caps) => (l.length < 2 ^ 63 ∧ noOwnL caps = true ∧ callable Tryd.prog f = true) ∧ ∀ x ∈ l, tbOk tbl f caps (sI x)) fun (l, f, caps) => (pI (idx (fun x => tb tbl f caps (sI x)) l), [])
theorem e_slices_IndexFunc_s_int_inj (a b : (List (List Int)) × FuncId × (List PV)) (h : e_slices_IndexFunc_s_int a = e_slices_IndexFunc_s_int b) : a = b := by
  obtain ⟨l1, f1, caps1⟩ := a; obtain ⟨l2, f2, caps2⟩ := b; simp [e_slices_IndexFunc_s_int, map_pI_inj, map_pB_inj, map_pY_inj, map_pBand_inj, map_sI_inj, str_inj, Int.natCast_inj, UInt8.toNat_inj, UInt32.toNat_inj] at h; first | exact h | (simp [h]; done) | exact UInt32.toNat_inj.1 (by omega) | exact UInt8.toNat_inj.1 (by omega) | (simp only [Prod.mk.injEq, ← UInt8.toNat_inj, ← UInt32.toNat_inj] at *; omega) | grind
theorem Ok_slices_IndexFunc_s_int (tbl : Tbl) {l : List (List Int)} {f : FuncId} {caps : List PV} {K : PV × List PV → Prop} : Ok (g_slices_IndexFunc_s_int tbl [sII l, .fn f caps]) K = (((l.length < 2 ^ 63 ∧ noOwnL caps = true ∧ callable Tryd.prog f = true) ∧ ∀ x ∈ l, tbOk tbl f caps (sI x)) ∧ K (pI (idx (fun x => tb tbl f caps (sI x)) l), [])) := Ok_spec e_slices_IndexFunc_s_int_inj (l, f, caps)
set_option maxHeartbeats 1000000 in
theorem impl_slices_IndexFunc_s_int {tbl : Tbl} {G : Nat → Option (List PV)} (hT : Tb tbl G) : Impl Tryd.prog G 90 (g_slices_IndexFunc_s_int tbl) := by
  refine impl_p (E := En tbl G 19 k_slices_IndexFunc_s_int []) (c := _) hT mixed Tryd.func90 rfl rfl (fun a => by simp [e_slices_IndexFunc_s_int, pinned.eq_1, pinned.eq_2, PV.isMut.eq_1, PV.isMut.eq_2]) ?_
  rintro ⟨l, f, caps⟩ hok
  refine ⟨by simp [e_slices_IndexFunc_s_int], ?_⟩
  replace hok : (l.length < 2 ^ 63 ∧ noOwnL caps = true ∧ callable Tryd.prog f = true) ∧ ∀ x ∈ l, tbOk tbl f caps (sI x) := hok
  obtain ⟨⟨hl, hc, hcal⟩, hok⟩ := hok
  simp -implicitDefEqProofs +contextual (maxSteps := 4000000) [-Int.not_le, -Int.not_lt, -Nat.not_le, -Nat.not_lt, -UInt32.toNat_or, -UInt32.toNat_xor, -UInt32.toNat_and, -UInt8.toNat_or, -UInt8.toNat_xor, -UInt8.toNat_and, -UInt32.toNat_add, -UInt8.toNat_add, -List.map_take, -List.map_drop, ← List.map_take, ← List.map_drop, -List.length_take, -List.length_drop, -List.map_replicate, rep_pY0, rep_pB0, rep_pI0, e_slices_IndexFunc_s_int.eq_1, Tryd.results90, hc, hcal]
  refine loopo (fun i => i ≤ l.length ∧ ∀ j (hj : j < i) (hl : j < l.length), tb tbl f caps (sI l[j]) = false)
    (fun i => [(0, .val (sII l), 0, 0), (1, .val (.fn f caps), 0, 0), (7, .val (pI l.length), 0, 0), (8, .val (pI i), 0, 0)])
    (fun i => l.length - i) ?_ (s := 0) rfl (by simp)
  rintro i ⟨hi, hp⟩
  have hcall : ∀ (i : Nat) (h : i < l.length), tbl f ((sI l[i]) :: caps) = some (pB (tb tbl f caps (sI l[i])), []) := fun i h => hok _ (List.getElem_mem h)
  simp -implicitDefEqProofs +contextual (maxSteps := 4000000) [-Int.not_le, -Int.not_lt, -Nat.not_le, -Nat.not_lt, -UInt32.toNat_or, -UInt32.toNat_xor, -UInt32.toNat_and, -UInt8.toNat_or, -UInt8.toNat_xor, -UInt8.toNat_and, -UInt32.toNat_add, -UInt8.toNat_add, -List.map_take, -List.map_drop, ← List.map_take, ← List.map_drop, -List.length_take, -List.length_drop, -List.map_replicate, rep_pY0, rep_pB0, rep_pI0, e_slices_IndexFunc_s_int.eq_1, Tryd.results90, hc, hcal, hcall]
  (repeat' (first | exact (show drawD _ _ = true by decide +kernel) | exact (show _ = List.range' _ _ from rfl) | with_reducible refine and_imp_self' ?_ ?_ | with_reducible refine And.intro ?_ ?_ | with_reducible refine @Exists.intro Nat _ (i + 1) ?_ | with_reducible refine Exists.intro (show (_ : Nat) < _ by omega) ?_ | intro _)) <;> (try (first | omega | (unfold fits; omega) | assumption | with_reducible rfl | (simp only [inR_iff, inR_not, fits_iff] at *; omega)))
  · exact (idx_at ‹_› ‹_› fun j hj => hp j hj _).symm
  · rename_i j hj hjl
    rcases Nat.lt_or_ge j i with h | h
    · exact hp j h hjl
    · obtain rfl : j = i := by omega
      assumption
  · exact (idx_none fun j hj => hp j (by omega) hj).symm
def e_slices_ContainsFunc_s_int : (List (List Int)) × FuncId × (List PV) → List PV := fun (l, f, caps) => [sII l, .fn f caps]
noncomputable def g_slices_ContainsFunc_s_int (tbl : Tbl) : List PV → Option (PV × List PV) := spec e_slices_ContainsFunc_s_int (fun (l, f, caps) => (l.length < 2 ^ 63 ∧ noOwnL caps = true ∧ callable Tryd.prog f = true) ∧ ∀ x ∈ l, tbOk tbl f caps (sI x)) fun (l, f, caps) => (pB (l.any fun x => tb tbl f caps (sI x)), [])
theorem e_slices_ContainsFunc_s_int_inj (a b : (List (List Int)) × FuncId × (List PV)) (h : e_slices_ContainsFunc_s_int a = e_slices_ContainsFunc_s_int b) : a = b := by
  obtain ⟨l1, f1, caps1⟩ := a; obtain ⟨l2, f2, caps2⟩ := b; simp [e_slices_ContainsFunc_s_int, map_pI_inj, map_pB_inj, map_pY_inj, map_pBand_inj, map_sI_inj, str_inj, Int.natCast_inj, UInt8.toNat_inj, UInt32.toNat_inj] at h; first | exact h | (simp [h]; done) | exact UInt32.toNat_inj.1 (by omega) | exact UInt8.toNat_inj.1 (by omega) | (simp only [Prod.mk.injEq, ← UInt8.toNat_inj, ← UInt32.toNat_inj] at *; omega) | grind
theorem Ok_slices_ContainsFunc_s_int (tbl : Tbl) {l : List (List Int)} {f : FuncId} {caps : List PV} {K : PV × List PV → Prop} : Ok (g_slices_ContainsFunc_s_int tbl [sII l, .fn f caps]) K = (((l.length < 2 ^ 63 ∧ noOwnL caps = true ∧ callable Tryd.prog f = true) ∧ ∀ x ∈ l, tbOk tbl f caps (sI x)) ∧ K (pB (l.any fun x => tb tbl f caps (sI x)), [])) := Ok_spec e_slices_ContainsFunc_s_int_inj (l, f, caps)
set_option maxHeartbeats 1000000 in
theorem impl_slices_ContainsFunc_s_int {tbl : Tbl} {G : Nat → Option (List PV)} (hT : Tb tbl G) {T0 : Tbl} (h_slices_IndexFunc_s_int : tbl 90 = g_slices_IndexFunc_s_int T0) : Impl Tryd.prog G 82 (g_slices_ContainsFunc_s_int T0) := by
  refine impl_p (E := En tbl G 9 k_slices_ContainsFunc_s_int []) (c := _) hT mixed Tryd.func82 rfl rfl (fun a => by simp [e_slices_ContainsFunc_s_int, pinned.eq_1, pinned.eq_2, PV.isMut.eq_1, PV.isMut.eq_2]) ?_
  rintro ⟨l, f, caps⟩ hok
  refine ⟨by simp [e_slices_ContainsFunc_s_int], ?_⟩
  replace hok : (l.length < 2 ^ 63 ∧ noOwnL caps = true ∧ callable Tryd.prog f = true) ∧ ∀ x ∈ l, tbOk T0 f caps (sI x) := hok
  obtain ⟨⟨hl, hc, hcal⟩, hok⟩ := hok
  simp -implicitDefEqProofs +contextual (maxSteps := 4000000) [-Int.not_le, -Int.not_lt, -Nat.not_le, -Nat.not_lt, -UInt32.toNat_or, -UInt32.toNat_xor, -UInt32.toNat_and, -UInt8.toNat_or, -UInt8.toNat_xor, -UInt8.toNat_and, -UInt32.toNat_add, -UInt8.toNat_add, -List.map_take, -List.map_drop, ← List.map_take, ← List.map_drop, -List.length_take, -List.length_drop, -List.map_replicate, rep_pY0, rep_pB0, rep_pI0, e_slices_ContainsFunc_s_int.eq_1, Tryd.results82, h_slices_IndexFunc_s_int, Ok_slices_IndexFunc_s_int, hc, hcal, idx_nonneg]
  exact ⟨hl, hok⟩

end Go.V
