/- A part of this seat's proofs: contracts of functions, or what these lean on. No condition. -/
import Derived.Test.YthbmifpfhdlicaaA28
import Derived.Test.YthbmifpfhdlicaaA10
import Derived.Test.YthbmifpfhdlicaaA3
import Derived.Test.YthbmifpfhdlicaaP6
import Derived.Test.YthbmifpfhdlicaaW6
namespace Go.V
open Go.Proofs
set_option maxRecDepth 8000
set_option linter.unusedSimpArgs false
set_option linter.unusedVariables false
theorem clsR_facts {t : Tab} {v : Int} : (clsB t v = true → clsR t v = clsW t v ∧ 0 ≤ clsW t v) ∧ (clsB t v = false → clsR t v = -1 ∧ clsW t v = 0) := by
  constructor
  · intro h
    refine ⟨by unfold clsR; rw [if_pos h], ?_⟩
    unfold clsB at h
    simp only [Bool.and_eq_true, decide_eq_true_eq] at h
    have := (validE_iff.1 h.1).class h.2
    unfold clsW; rw [if_pos h.1]; exact this.1
  · intro h
    refine ⟨by unfold clsR; rw [if_neg (by simp [h])], ?_⟩
    unfold clsW
    split
    · rename_i h0
      have : classB t.bands v = false := by unfold clsB at h; rw [decide_eq_true h0] at h; simpa using h
      unfold classV
      rw [if_neg (by unfold classB at this; simpa using this)]
    · rfl
theorem sta_facts {t : Tab} {l : List Int} : (staB t l = true → ∃ P, (stsV t l).getD [] = P ∧ ∃ h : l.length < (natsI P).length, (natsI P)[l.length] = staV t l) ∧ (staB t l = false → staV t l = 0) := by
  constructor
  · intro h
    unfold staB at h
    obtain ⟨P, hP⟩ := Option.isSome_iff_exists.1 h
    refine ⟨P, by rw [hP]; rfl, ?_⟩
    have hl : P.length = l.length + 1 := by
      unfold stsV at hP; split at hP
      · exact (stsL_ne hP).1
      · cases hP
    refine ⟨by rw [natsI_len]; omega, ?_⟩
    rw [natsI_get]
    unfold staV
    rw [hP]
    simp only [Option.bind_some]
    have : (P.getLast?).getD 0 = P[l.length] := by rw [List.getLast?_eq_getElem?, show P.length - 1 = l.length by omega, List.getElem?_eq_getElem (by omega)]; rfl
    rw [this]
  · intro h
    unfold staB at h
    unfold staV
    cases hh : stsV t l with
    | none => rfl
    | some P => rw [hh] at h; cases h
theorem brkV_len {t : Tab} {l : List Int} : (brkV t l).length ≤ l.length + 1 := by
  unfold brkV
  cases h : stsV t l with
  | none => exact Nat.zero_le _
  | some P =>
    unfold stsV at h; split at h
    · have := (stsL_ne h).1
      show (brkIx t P).length ≤ _
      unfold brkIx; rw [List.length_map]
      exact Nat.le_trans (List.length_filter_le _ _) (by rw [List.length_range]; omega)
    · cases h
def e_law08_WalkTells : Tab × (List Int) × Int → List PV := fun (t, l, v) => [pT t, sI l, pI v]
noncomputable def g_law08_WalkTells : List PV → Option (PV × List PV) := spec e_law08_WalkTells (fun (t, l, v) => (t.bands.length < 2 ^ 63 ∧ t.next.length < 2 ^ 63 ∧ t.brk.length < 2 ^ 63) ∧ l.length < 2 ^ 63) fun (t, l, v) => (pB true, [])
theorem e_law08_WalkTells_inj (a b : Tab × (List Int) × Int) (h : e_law08_WalkTells a = e_law08_WalkTells b) : a = b := by
  obtain ⟨⟨t1a, t1b, t1c, t1d⟩, l1, v1⟩ := a; obtain ⟨⟨t2a, t2b, t2c, t2d⟩, l2, v2⟩ := b; simp [e_law08_WalkTells, map_pI_inj, map_pB_inj, map_pY_inj, map_pBand_inj, map_sI_inj, Int.natCast_inj, UInt8.toNat_inj, UInt32.toNat_inj] at h; first | exact h | (simp [h]; done) | exact UInt32.toNat_inj.1 (by omega) | exact UInt8.toNat_inj.1 (by omega) | (simp only [Prod.mk.injEq, ← UInt8.toNat_inj, ← UInt32.toNat_inj] at *; omega) | grind
theorem Ok_law08_WalkTells {t : Tab} {l : List Int} {v : Int} {K : PV × List PV → Prop} : Ok (g_law08_WalkTells [pT t, sI l, pI v]) K = (((t.bands.length < 2 ^ 63 ∧ t.next.length < 2 ^ 63 ∧ t.brk.length < 2 ^ 63) ∧ l.length < 2 ^ 63) ∧ K (pB true, [])) := Ok_spec e_law08_WalkTells_inj (t, l, v)
set_option maxHeartbeats 4000000 in
theorem impl_law08_WalkTells {tbl : Tbl} {G : Nat → Option (List PV)} (hT : Tb tbl G) (h_law06_Large : tbl 19 = g_law06_Large) (h_walk_Breaks : tbl 42 = g_walk_Breaks) (h_walk_State : tbl 43 = g_walk_State) (h_keep_Ints : tbl 45 = g_keep_Ints) (h_walk_Class : tbl 46 = g_walk_Class) (h_ref08_Class : tbl 47 = g_ref08_Class) (h_ref08_States : tbl 48 = g_ref08_States) (h_ref08_Breaks : tbl 49 = g_ref08_Breaks) (h_w : tbl 41 = gTrue) : Impl Try.prog G 18 (g_law08_WalkTells) := by
  refine impl_p (E := En tbl G 122 k_law08_WalkTells []) (c := _) hT mixed Try.func18 rfl rfl (fun a => by simp [e_law08_WalkTells, pinned.eq_1, pinned.eq_2, PV.isMut.eq_1, PV.isMut.eq_2]) ?_
  rintro ⟨t, l, v⟩ hok
  refine ⟨by simp [e_law08_WalkTells], ?_⟩
  replace hok : (t.bands.length < 2 ^ 63 ∧ t.next.length < 2 ^ 63 ∧ t.brk.length < 2 ^ 63) ∧ l.length < 2 ^ 63 := hok
  have hw : gTrue [] = some (pB true, []) := rfl
  obtain ⟨ht, hl⟩ := hok
  by_cases hL : largeT t = true
  · simp -implicitDefEqProofs +contextual (maxSteps := 4000000) [-Int.not_le, -Int.not_lt, -Nat.not_le, -Nat.not_lt, -UInt32.toNat_or, -UInt32.toNat_xor, -UInt32.toNat_and, -UInt8.toNat_or, -UInt8.toNat_xor, -UInt8.toNat_and, -UInt32.toNat_add, -UInt8.toNat_add, -List.map_take, -List.map_drop, ← List.map_take, ← List.map_drop, -List.length_take, -List.length_drop, -List.map_replicate, rep_pY0, rep_pB0, rep_pI0, e_law08_WalkTells.eq_1, Try.results18, h_law06_Large, Ok_law06_Large, h_walk_Breaks, Ok_walk_Breaks, h_walk_State, Ok_walk_State, h_keep_Ints, Ok_keep_Ints, h_walk_Class, Ok_walk_Class, h_ref08_Class, Ok_ref08_Class, h_ref08_States, Ok_ref08_States, h_ref08_Breaks, Ok_ref08_Breaks, h_w, hw, hL]
    omega
  by_cases hB : 500 < (l.length : Int)
  · simp -implicitDefEqProofs +contextual (maxSteps := 4000000) [-Int.not_le, -Int.not_lt, -Nat.not_le, -Nat.not_lt, -UInt32.toNat_or, -UInt32.toNat_xor, -UInt32.toNat_and, -UInt8.toNat_or, -UInt8.toNat_xor, -UInt8.toNat_and, -UInt32.toNat_add, -UInt8.toNat_add, -List.map_take, -List.map_drop, ← List.map_take, ← List.map_drop, -List.length_take, -List.length_drop, -List.map_replicate, rep_pY0, rep_pB0, rep_pI0, e_law08_WalkTells.eq_1, Try.results18, h_law06_Large, Ok_law06_Large, h_walk_Breaks, Ok_walk_Breaks, h_walk_State, Ok_walk_State, h_keep_Ints, Ok_keep_Ints, h_walk_Class, Ok_walk_Class, h_ref08_Class, Ok_ref08_Class, h_ref08_States, Ok_ref08_States, h_ref08_Breaks, Ok_ref08_Breaks, h_w, hw, hL, hB]
    omega
  have hsm := largeT_small (by simpa using hL)
  have hwd := wide_of hsm
  have hl2 : l.length < 2 ^ 40 := by omega
  have hl3 : l.length < 2 ^ 62 := by omega
  have hbl : (brkV t l).length < 4611686018427387904 := by have := brkV_len (t := t) (l := l); omega
  have c := clsR_facts (t := t) (v := v)
  have s := sta_facts (t := t) (l := l)
  cases hx : clsB t v
  · obtain ⟨c1, c2⟩ := c.2 hx
    cases hy : staB t l
    · have s1 := s.2 hy
      simp -implicitDefEqProofs +contextual (maxSteps := 4000000) [-Int.not_le, -Int.not_lt, -Nat.not_le, -Nat.not_lt, -UInt32.toNat_or, -UInt32.toNat_xor, -UInt32.toNat_and, -UInt8.toNat_or, -UInt8.toNat_xor, -UInt8.toNat_and, -UInt32.toNat_add, -UInt8.toNat_add, -List.map_take, -List.map_drop, ← List.map_take, ← List.map_drop, -List.length_take, -List.length_drop, -List.map_replicate, rep_pY0, rep_pB0, rep_pI0, e_law08_WalkTells.eq_1, Try.results18, h_law06_Large, Ok_law06_Large, h_walk_Breaks, Ok_walk_Breaks, h_walk_State, Ok_walk_State, h_keep_Ints, Ok_keep_Ints, h_walk_Class, Ok_walk_Class, h_ref08_Class, Ok_ref08_Class, h_ref08_States, Ok_ref08_States, h_ref08_Breaks, Ok_ref08_Breaks, h_w, hw, hL, hB, hwd, hl2, hl3, hx, hy, c1, c2, s1]
      exact ⟨ht, by omega, fun _ => ⟨by decide +kernel, hbl⟩⟩
    · obtain ⟨P, s1, s2, s3⟩ := s.1 hy
      simp -implicitDefEqProofs +contextual (maxSteps := 4000000) [-Int.not_le, -Int.not_lt, -Nat.not_le, -Nat.not_lt, -UInt32.toNat_or, -UInt32.toNat_xor, -UInt32.toNat_and, -UInt8.toNat_or, -UInt8.toNat_xor, -UInt8.toNat_and, -UInt32.toNat_add, -UInt8.toNat_add, -List.map_take, -List.map_drop, ← List.map_take, ← List.map_drop, -List.length_take, -List.length_drop, -List.map_replicate, rep_pY0, rep_pB0, rep_pI0, e_law08_WalkTells.eq_1, Try.results18, h_law06_Large, Ok_law06_Large, h_walk_Breaks, Ok_walk_Breaks, h_walk_State, Ok_walk_State, h_keep_Ints, Ok_keep_Ints, h_walk_Class, Ok_walk_Class, h_ref08_Class, Ok_ref08_Class, h_ref08_States, Ok_ref08_States, h_ref08_Breaks, Ok_ref08_Breaks, h_w, hw, hL, hB, hwd, hl2, hl3, hx, hy, c1, c2, s1, s2, s3]
      exact ⟨ht, by omega, fun _ => ⟨by decide +kernel, hbl⟩⟩
  · obtain ⟨c1, c2⟩ := c.1 hx
    have c3 : ¬ clsW t v < 0 := by omega
    cases hy : staB t l
    · have s1 := s.2 hy
      simp -implicitDefEqProofs +contextual (maxSteps := 4000000) [-Int.not_le, -Int.not_lt, -Nat.not_le, -Nat.not_lt, -UInt32.toNat_or, -UInt32.toNat_xor, -UInt32.toNat_and, -UInt8.toNat_or, -UInt8.toNat_xor, -UInt8.toNat_and, -UInt32.toNat_add, -UInt8.toNat_add, -List.map_take, -List.map_drop, ← List.map_take, ← List.map_drop, -List.length_take, -List.length_drop, -List.map_replicate, rep_pY0, rep_pB0, rep_pI0, e_law08_WalkTells.eq_1, Try.results18, h_law06_Large, Ok_law06_Large, h_walk_Breaks, Ok_walk_Breaks, h_walk_State, Ok_walk_State, h_keep_Ints, Ok_keep_Ints, h_walk_Class, Ok_walk_Class, h_ref08_Class, Ok_ref08_Class, h_ref08_States, Ok_ref08_States, h_ref08_Breaks, Ok_ref08_Breaks, h_w, hw, hL, hB, hwd, hl2, hl3, hx, hy, c1, c2, s1]
      exact ⟨ht, by omega, fun _ => ⟨by decide +kernel, hbl⟩⟩
    · obtain ⟨P, s1, s2, s3⟩ := s.1 hy
      simp -implicitDefEqProofs +contextual (maxSteps := 4000000) [-Int.not_le, -Int.not_lt, -Nat.not_le, -Nat.not_lt, -UInt32.toNat_or, -UInt32.toNat_xor, -UInt32.toNat_and, -UInt8.toNat_or, -UInt8.toNat_xor, -UInt8.toNat_and, -UInt32.toNat_add, -UInt8.toNat_add, -List.map_take, -List.map_drop, ← List.map_take, ← List.map_drop, -List.length_take, -List.length_drop, -List.map_replicate, rep_pY0, rep_pB0, rep_pI0, e_law08_WalkTells.eq_1, Try.results18, h_law06_Large, Ok_law06_Large, h_walk_Breaks, Ok_walk_Breaks, h_walk_State, Ok_walk_State, h_keep_Ints, Ok_keep_Ints, h_walk_Class, Ok_walk_Class, h_ref08_Class, Ok_ref08_Class, h_ref08_States, Ok_ref08_States, h_ref08_Breaks, Ok_ref08_Breaks, h_w, hw, hL, hB, hwd, hl2, hl3, hx, hy, c1, c2, s1, s2, s3]
      exact ⟨ht, by omega, fun _ => ⟨by decide +kernel, hbl⟩⟩
theorem law_law08_WalkTells_eq (t : Tab) (w : wfT t) (l : List Int) (wl : l.length ≤ maxLen ∧ ∀ x ∈ l, fits x) (v : Int) (wv : fits v) : g_law08_WalkTells [pT t, sI l, pI v] = some (pB true, []) :=
  Ok_eq (by
    rw [Ok_law08_WalkTells]
    have h3 := wl.1
    unfold maxLen at h3
    exact ⟨⟨wfT_len w, by omega⟩, rfl⟩)

end Go.V
