/- A part of this seat's proofs: contracts of functions, or what these lean on. No condition. -/
import Derived.Test.YthbmifpfhdlicaaA28
import Derived.Test.YthbmifpfhdlicaaP15
import Derived.Test.YthbmifpfhdlicaaP6
import Derived.Test.YthbmifpfhdlicaaW6
namespace Go.V
open Go.Proofs
set_option maxRecDepth 8000
set_option linter.unusedSimpArgs false
set_option linter.unusedVariables false
def e_law08_WalkBands : Tab × UInt32 × UInt32 → List PV := fun (t, n, m) => [pT t, .agg [pW n, pW m]]
noncomputable def g_law08_WalkBands : List PV → Option (PV × List PV) := spec e_law08_WalkBands (fun (t, n, m) => t.bands.length < 2 ^ 63 ∧ t.next.length < 2 ^ 63 ∧ t.brk.length < 2 ^ 63) fun (t, n, m) => (pB true, [])
theorem e_law08_WalkBands_inj (a b : Tab × UInt32 × UInt32) (h : e_law08_WalkBands a = e_law08_WalkBands b) : a = b := by
  obtain ⟨⟨t1a, t1b, t1c, t1d⟩, n1, m1⟩ := a; obtain ⟨⟨t2a, t2b, t2c, t2d⟩, n2, m2⟩ := b; simp [e_law08_WalkBands, map_pI_inj, map_pB_inj, map_pY_inj, map_pBand_inj, map_sI_inj, Int.natCast_inj, UInt8.toNat_inj, UInt32.toNat_inj] at h; first | exact h | (simp [h]; done) | exact UInt32.toNat_inj.1 (by omega) | exact UInt8.toNat_inj.1 (by omega) | (simp only [Prod.mk.injEq, ← UInt8.toNat_inj, ← UInt32.toNat_inj] at *; omega) | grind
theorem Ok_law08_WalkBands {t : Tab} {n : UInt32} {m : UInt32} {K : PV × List PV → Prop} : Ok (g_law08_WalkBands [pT t, .agg [pW n, pW m]]) K = ((t.bands.length < 2 ^ 63 ∧ t.next.length < 2 ^ 63 ∧ t.brk.length < 2 ^ 63) ∧ K (pB true, [])) := Ok_spec e_law08_WalkBands_inj (t, n, m)
set_option maxHeartbeats 8000000 in
theorem impl_law08_WalkBands {tbl : Tbl} {G : Nat → Option (List PV)} (hT : Tb tbl G) (h_ref07_Table : tbl 36 = g_ref07_Table) (h_walk_Class : tbl 46 = g_walk_Class) (h_w : tbl 41 = gTrue) : Impl Try.prog G 16 (g_law08_WalkBands) := by
  refine impl_p (E := En tbl G 120 k_law08_WalkBands []) (c := _) hT mixed Try.func16 rfl rfl (fun a => by simp [e_law08_WalkBands, pinned.eq_1, pinned.eq_2, PV.isMut.eq_1, PV.isMut.eq_2]) ?_
  rintro ⟨t, n, m⟩ hok
  refine ⟨by simp [e_law08_WalkBands], ?_⟩
  replace hok : t.bands.length < 2 ^ 63 ∧ t.next.length < 2 ^ 63 ∧ t.brk.length < 2 ^ 63 := hok
  have hw : gTrue [] = some (pB true, []) := rfl
  have hwd : wide t := hok
  by_cases hV : validE t = 0
  case neg =>
    simp -implicitDefEqProofs +contextual (maxSteps := 4000000) [-Int.not_le, -Int.not_lt, -Nat.not_le, -Nat.not_lt, -UInt32.toNat_or, -UInt32.toNat_xor, -UInt32.toNat_and, -UInt8.toNat_or, -UInt8.toNat_xor, -UInt8.toNat_and, -UInt32.toNat_add, -UInt8.toNat_add, -List.map_take, -List.map_drop, ← List.map_take, ← List.map_drop, -List.length_take, -List.length_drop, -List.map_replicate, rep_pY0, rep_pB0, rep_pI0, e_law08_WalkBands.eq_1, Try.results16, h_ref07_Table, Ok_ref07_Table, h_walk_Class, Ok_walk_Class, h_w, hw, hwd, hV]
  have hv := validE_iff.1 hV
  have h60 := hv.cnt.b
  have hpos : (0 : Int) < t.bands.length := by omega
  obtain ⟨k, hk, hk2⟩ : ∃ k : Nat, (n.toNat : Int) % t.bands.length = k ∧ k < t.bands.length := by
    have h1 := Int.emod_nonneg (n.toNat : Int) (show (t.bands.length : Int) ≠ 0 by omega)
    have h2 := Int.emod_lt_of_pos (n.toNat : Int) hpos
    exact ⟨((n.toNat : Int) % t.bands.length).toNat, by omega, by omega⟩
  have hg : ∀ {i} (h : i < t.bands.length), t.bands.getD i (0, 0) = t.bands[i] := fun {i} h => by simp [List.getD_eq_getElem?_getD, h]
  have hsc := isSc_iff.1 (bnd_sc hv.bnd hk2)
  rw [hg hk2] at hsc
  have hmr := m.toNat_lt
  have tk : ((k : Int) + 1).toNat = k + 1 := by omega
  have ec : ∀ v, clsB t v = isSc v := fun v => by unfold clsB; rw [decide_eq_true hV, Bool.true_and, hv.classB]
  have ew : ∀ v, clsW t v = classV t.bands v := fun v => by unfold clsW; rw [if_pos hV]
  have q1 : clsB t (-1 - (m.toNat : Int)) = false := by rw [ec]; exact isSc_not.2 (by omega)
  have q2 : clsB t (1114112 + (m.toNat : Int)) = false := by rw [ec]; exact isSc_not.2 (by omega)
  have main : ∀ hi : Int, (t.bands[k]).1 ≤ hi → hi ≤ 1114111 → (∀ j, k < j → j < t.bands.length → hi < (t.bands.getD j (0, 0)).1) →
      ∃ v, (t.bands[k]).1 + (m.toNat : Int) % (hi - (t.bands[k]).1 + 1) = v ∧ (0 ≤ v ∧ v ≤ 1114111) ∧ (isSc v = true → classV t.bands v = (t.bands[k]).2) := by
    intro hi h1 h2 h3
    have r1 := Int.emod_nonneg (m.toNat : Int) (show hi - (t.bands[k]).1 + 1 ≠ 0 by omega)
    have r2 := Int.emod_lt_of_pos (m.toNat : Int) (show 0 < hi - (t.bands[k]).1 + 1 by omega)
    refine ⟨_, rfl, by omega, fun hs => classV_at hs hk2 (by rw [hg hk2]; omega) fun j a b => ?_⟩
    have := h3 j a b
    omega
  have fin : ∀ v : Int, 0 ≤ v → v ≤ 1114111 → (isSc v = true → classV t.bands v = (t.bands[k]).2) → (isSc v = true ∧ clsB t v = true ∧ clsW t v = (t.bands[k]).2 ∧ ¬ (55296 ≤ v ∧ v ≤ 57343)) ∨ (clsB t v = false ∧ clsW t v = 0 ∧ 55296 ≤ v ∧ v ≤ 57343) := fun v a b c => by
    rw [ec, ew]
    cases hs : isSc v
    · right
      have := isSc_not.1 hs
      exact ⟨rfl, (classB_no hs).2, by omega, by omega⟩
    · left
      have := isSc_iff.1 hs
      exact ⟨rfl, rfl, c hs, by omega⟩
  by_cases hlast : (k : Int) + 1 < t.bands.length
  · have hl' : k + 1 < t.bands.length := by omega
    have hrise := bnd_rise hv.bnd (show k < k + 1 by omega) hl'
    rw [hg hk2, hg hl'] at hrise
    have hsc2 := isSc_iff.1 (bnd_sc hv.bnd hl')
    rw [hg hl'] at hsc2
    obtain ⟨v, hv1, ⟨hv2, hv3⟩, hv4⟩ := main ((t.bands[k + 1]).1 - 1) (by omega) (by omega) (fun j a b => by
      rcases (show j = k + 1 ∨ k + 1 < j by omega) with rfl | c
      · rw [hg hl']; omega
      · have := bnd_rise hv.bnd c b
        rw [hg hl'] at this; omega)
    rcases fin v hv2 hv3 hv4 with ⟨f0, f1, f2, f3⟩ | ⟨f1, f2, f3, f4⟩
    · by_cases g : 55296 ≤ v
      · have g2 : ¬ v ≤ 57343 := by omega
        simp -implicitDefEqProofs +contextual (maxSteps := 4000000) [-Int.not_le, -Int.not_lt, -Nat.not_le, -Nat.not_lt, -UInt32.toNat_or, -UInt32.toNat_xor, -UInt32.toNat_and, -UInt8.toNat_or, -UInt8.toNat_xor, -UInt8.toNat_and, -UInt32.toNat_add, -UInt8.toNat_add, -List.map_take, -List.map_drop, ← List.map_take, ← List.map_drop, -List.length_take, -List.length_drop, -List.map_replicate, rep_pY0, rep_pB0, rep_pI0, e_law08_WalkBands.eq_1, Try.results16, h_ref07_Table, Ok_ref07_Table, h_walk_Class, Ok_walk_Class, h_w, hw, hwd, hV, hpos, hk, hk2, hlast, hl', tk, hv1, f1, f2, g, g2, q1, q2]
        (repeat' (first | exact (show drawD _ _ = true by decide +kernel) | exact (show _ = List.range' _ _ from rfl) | with_reducible refine and_imp_self' ?_ ?_ | with_reducible refine And.intro ?_ ?_ | with_reducible refine @Exists.intro Nat _ (i + 1) ?_ | with_reducible refine Exists.intro (show (_ : Nat) < _ by omega) ?_ | intro _)) <;> (try (first | omega | (unfold fits; omega) | assumption | with_reducible rfl | (simp only [inR_iff, inR_not, fits_iff] at *; omega)))
      · simp -implicitDefEqProofs +contextual (maxSteps := 4000000) [-Int.not_le, -Int.not_lt, -Nat.not_le, -Nat.not_lt, -UInt32.toNat_or, -UInt32.toNat_xor, -UInt32.toNat_and, -UInt8.toNat_or, -UInt8.toNat_xor, -UInt8.toNat_and, -UInt32.toNat_add, -UInt8.toNat_add, -List.map_take, -List.map_drop, ← List.map_take, ← List.map_drop, -List.length_take, -List.length_drop, -List.map_replicate, rep_pY0, rep_pB0, rep_pI0, e_law08_WalkBands.eq_1, Try.results16, h_ref07_Table, Ok_ref07_Table, h_walk_Class, Ok_walk_Class, h_w, hw, hwd, hV, hpos, hk, hk2, hlast, hl', tk, hv1, f1, f2, g, q1, q2]
        (repeat' (first | exact (show drawD _ _ = true by decide +kernel) | exact (show _ = List.range' _ _ from rfl) | with_reducible refine and_imp_self' ?_ ?_ | with_reducible refine And.intro ?_ ?_ | with_reducible refine @Exists.intro Nat _ (i + 1) ?_ | with_reducible refine Exists.intro (show (_ : Nat) < _ by omega) ?_ | intro _)) <;> (try (first | omega | (unfold fits; omega) | assumption | with_reducible rfl | (simp only [inR_iff, inR_not, fits_iff] at *; omega)))
    · simp -implicitDefEqProofs +contextual (maxSteps := 4000000) [-Int.not_le, -Int.not_lt, -Nat.not_le, -Nat.not_lt, -UInt32.toNat_or, -UInt32.toNat_xor, -UInt32.toNat_and, -UInt8.toNat_or, -UInt8.toNat_xor, -UInt8.toNat_and, -UInt32.toNat_add, -UInt8.toNat_add, -List.map_take, -List.map_drop, ← List.map_take, ← List.map_drop, -List.length_take, -List.length_drop, -List.map_replicate, rep_pY0, rep_pB0, rep_pI0, e_law08_WalkBands.eq_1, Try.results16, h_ref07_Table, Ok_ref07_Table, h_walk_Class, Ok_walk_Class, h_w, hw, hwd, hV, hpos, hk, hk2, hlast, hl', tk, hv1, f1, f2, f3, f4, q1, q2]
      (repeat' (first | exact (show drawD _ _ = true by decide +kernel) | exact (show _ = List.range' _ _ from rfl) | with_reducible refine and_imp_self' ?_ ?_ | with_reducible refine And.intro ?_ ?_ | with_reducible refine @Exists.intro Nat _ (i + 1) ?_ | with_reducible refine Exists.intro (show (_ : Nat) < _ by omega) ?_ | intro _)) <;> (try (first | omega | (unfold fits; omega) | assumption | with_reducible rfl | (simp only [inR_iff, inR_not, fits_iff] at *; omega)))
  · obtain ⟨v, hv1, ⟨hv2, hv3⟩, hv4⟩ := main 1114111 (by omega) (by omega) (fun j a b => by omega)
    rcases fin v hv2 hv3 hv4 with ⟨f0, f1, f2, f3⟩ | ⟨f1, f2, f3, f4⟩
    · by_cases g : 55296 ≤ v
      · have g2 : ¬ v ≤ 57343 := by omega
        simp -implicitDefEqProofs +contextual (maxSteps := 4000000) [-Int.not_le, -Int.not_lt, -Nat.not_le, -Nat.not_lt, -UInt32.toNat_or, -UInt32.toNat_xor, -UInt32.toNat_and, -UInt8.toNat_or, -UInt8.toNat_xor, -UInt8.toNat_and, -UInt32.toNat_add, -UInt8.toNat_add, -List.map_take, -List.map_drop, ← List.map_take, ← List.map_drop, -List.length_take, -List.length_drop, -List.map_replicate, rep_pY0, rep_pB0, rep_pI0, e_law08_WalkBands.eq_1, Try.results16, h_ref07_Table, Ok_ref07_Table, h_walk_Class, Ok_walk_Class, h_w, hw, hwd, hV, hpos, hk, hk2, hlast, hv1, f1, f2, g, g2, q1, q2]
        (repeat' (first | exact (show drawD _ _ = true by decide +kernel) | exact (show _ = List.range' _ _ from rfl) | with_reducible refine and_imp_self' ?_ ?_ | with_reducible refine And.intro ?_ ?_ | with_reducible refine @Exists.intro Nat _ (i + 1) ?_ | with_reducible refine Exists.intro (show (_ : Nat) < _ by omega) ?_ | intro _)) <;> (try (first | omega | (unfold fits; omega) | assumption | with_reducible rfl | (simp only [inR_iff, inR_not, fits_iff] at *; omega)))
      · simp -implicitDefEqProofs +contextual (maxSteps := 4000000) [-Int.not_le, -Int.not_lt, -Nat.not_le, -Nat.not_lt, -UInt32.toNat_or, -UInt32.toNat_xor, -UInt32.toNat_and, -UInt8.toNat_or, -UInt8.toNat_xor, -UInt8.toNat_and, -UInt32.toNat_add, -UInt8.toNat_add, -List.map_take, -List.map_drop, ← List.map_take, ← List.map_drop, -List.length_take, -List.length_drop, -List.map_replicate, rep_pY0, rep_pB0, rep_pI0, e_law08_WalkBands.eq_1, Try.results16, h_ref07_Table, Ok_ref07_Table, h_walk_Class, Ok_walk_Class, h_w, hw, hwd, hV, hpos, hk, hk2, hlast, hv1, f1, f2, g, q1, q2]
        (repeat' (first | exact (show drawD _ _ = true by decide +kernel) | exact (show _ = List.range' _ _ from rfl) | with_reducible refine and_imp_self' ?_ ?_ | with_reducible refine And.intro ?_ ?_ | with_reducible refine @Exists.intro Nat _ (i + 1) ?_ | with_reducible refine Exists.intro (show (_ : Nat) < _ by omega) ?_ | intro _)) <;> (try (first | omega | (unfold fits; omega) | assumption | with_reducible rfl | (simp only [inR_iff, inR_not, fits_iff] at *; omega)))
    · simp -implicitDefEqProofs +contextual (maxSteps := 4000000) [-Int.not_le, -Int.not_lt, -Nat.not_le, -Nat.not_lt, -UInt32.toNat_or, -UInt32.toNat_xor, -UInt32.toNat_and, -UInt8.toNat_or, -UInt8.toNat_xor, -UInt8.toNat_and, -UInt32.toNat_add, -UInt8.toNat_add, -List.map_take, -List.map_drop, ← List.map_take, ← List.map_drop, -List.length_take, -List.length_drop, -List.map_replicate, rep_pY0, rep_pB0, rep_pI0, e_law08_WalkBands.eq_1, Try.results16, h_ref07_Table, Ok_ref07_Table, h_walk_Class, Ok_walk_Class, h_w, hw, hwd, hV, hpos, hk, hk2, hlast, hv1, f1, f2, f3, f4, q1, q2]
      (repeat' (first | exact (show drawD _ _ = true by decide +kernel) | exact (show _ = List.range' _ _ from rfl) | with_reducible refine and_imp_self' ?_ ?_ | with_reducible refine And.intro ?_ ?_ | with_reducible refine @Exists.intro Nat _ (i + 1) ?_ | with_reducible refine Exists.intro (show (_ : Nat) < _ by omega) ?_ | intro _)) <;> (try (first | omega | (unfold fits; omega) | assumption | with_reducible rfl | (simp only [inR_iff, inR_not, fits_iff] at *; omega)))
theorem u32_of {n : Int} (h : (Lit.int .u32 n).wf = true) : ∃ a : UInt32, n = (a.toNat : Int) := by
  have h' : 0 ≤ n ∧ n ≤ 4294967295 := by simpa [Lit.wf, IntKind.min, IntKind.max, IntKind.signed] using h
  exact ⟨by32 n, by rw [by32_toNat, Int.emod_eq_of_lt h'.1 (by omega)]⟩
theorem law_law08_WalkBands_eq (t : Tab) (w : wfT t) (n : Int × Int) (wn : (Lit.int .u32 n.1).wf = true ∧ (Lit.int .u32 n.2).wf = true) : g_law08_WalkBands [pT t, .agg [.prim (.int .u32 n.1), .prim (.int .u32 n.2)]] = some (pB true, []) := by
  obtain ⟨a, ha⟩ := u32_of wn.1
  obtain ⟨b, hb⟩ := u32_of wn.2
  rw [ha, hb]
  exact Ok_eq (by rw [Ok_law08_WalkBands]; exact ⟨wfT_len w, rfl⟩)

end Go.V
