/- A part of this seat's proofs: contracts of functions, or what these lean on. No condition. -/
import Derived.Test.YthbmifpfhdlicaaA28
import Derived.Test.YthbmifpfhdlicaaP6
import Derived.Test.YthbmifpfhdlicaaW6
namespace Go.V
open Go.Proofs
set_option maxRecDepth 8000
set_option linter.unusedSimpArgs false
set_option linter.unusedVariables false
def e_law08_WalkSteps : Tab × (List Int) → List PV := fun (t, l) => [pT t, sI l]
noncomputable def g_law08_WalkSteps : List PV → Option (PV × List PV) := spec e_law08_WalkSteps (fun (t, l) => (t.bands.length < 2 ^ 63 ∧ t.next.length < 2 ^ 63 ∧ t.brk.length < 2 ^ 63) ∧ l.length < 2 ^ 63) fun (t, l) => (pB true, [])
theorem e_law08_WalkSteps_inj (a b : Tab × (List Int)) (h : e_law08_WalkSteps a = e_law08_WalkSteps b) : a = b := by
  obtain ⟨⟨t1a, t1b, t1c, t1d⟩, l1⟩ := a; obtain ⟨⟨t2a, t2b, t2c, t2d⟩, l2⟩ := b; simp [e_law08_WalkSteps, map_pI_inj, map_pB_inj, map_pY_inj, map_pBand_inj, map_sI_inj, Int.natCast_inj, UInt8.toNat_inj, UInt32.toNat_inj] at h; first | exact h | (simp [h]; done) | exact UInt32.toNat_inj.1 (by omega) | exact UInt8.toNat_inj.1 (by omega) | (simp only [Prod.mk.injEq, ← UInt8.toNat_inj, ← UInt32.toNat_inj] at *; omega) | grind
theorem Ok_law08_WalkSteps {t : Tab} {l : List Int} {K : PV × List PV → Prop} : Ok (g_law08_WalkSteps [pT t, sI l]) K = (((t.bands.length < 2 ^ 63 ∧ t.next.length < 2 ^ 63 ∧ t.brk.length < 2 ^ 63) ∧ l.length < 2 ^ 63) ∧ K (pB true, [])) := Ok_spec e_law08_WalkSteps_inj (t, l)
set_option maxHeartbeats 8000000 in
theorem impl_law08_WalkSteps {tbl : Tbl} {G : Nat → Option (List PV)} (hT : Tb tbl G) (h_ref07_Table : tbl 36 = g_ref07_Table) (h_walk_Breaks : tbl 42 = g_walk_Breaks) (h_walk_State : tbl 43 = g_walk_State) (h_walk_Class : tbl 46 = g_walk_Class) (h_w : tbl 41 = gTrue) : Impl Try.prog G 17 (g_law08_WalkSteps) := by
  refine impl_p (E := En tbl G 84 k_law08_WalkSteps []) (c := _) hT mixed Try.func17 rfl rfl (fun a => by simp [e_law08_WalkSteps, pinned.eq_1, pinned.eq_2, PV.isMut.eq_1, PV.isMut.eq_2]) ?_
  rintro ⟨t, l⟩ hok
  refine ⟨by simp [e_law08_WalkSteps], ?_⟩
  replace hok : (t.bands.length < 2 ^ 63 ∧ t.next.length < 2 ^ 63 ∧ t.brk.length < 2 ^ 63) ∧ l.length < 2 ^ 63 := hok
  have hw : gTrue [] = some (pB true, []) := rfl
  obtain ⟨ht, hl⟩ := hok
  have hwd : wide t := ht
  by_cases hV : validE t = 0
  case neg =>
    simp -implicitDefEqProofs +contextual (maxSteps := 4000000) [-Int.not_le, -Int.not_lt, -Nat.not_le, -Nat.not_lt, -UInt32.toNat_or, -UInt32.toNat_xor, -UInt32.toNat_and, -UInt8.toNat_or, -UInt8.toNat_xor, -UInt8.toNat_and, -UInt32.toNat_add, -UInt8.toNat_add, -List.map_take, -List.map_drop, ← List.map_take, ← List.map_drop, -List.length_take, -List.length_drop, -List.map_replicate, rep_pY0, rep_pB0, rep_pI0, e_law08_WalkSteps.eq_1, Try.results17, h_ref07_Table, Ok_ref07_Table, h_walk_Breaks, Ok_walk_Breaks, h_walk_State, Ok_walk_State, h_walk_Class, Ok_walk_Class, h_w, hw, hwd, hV]
  by_cases hB : 60 < (l.length : Int)
  · simp -implicitDefEqProofs +contextual (maxSteps := 4000000) [-Int.not_le, -Int.not_lt, -Nat.not_le, -Nat.not_lt, -UInt32.toNat_or, -UInt32.toNat_xor, -UInt32.toNat_and, -UInt8.toNat_or, -UInt8.toNat_xor, -UInt8.toNat_and, -UInt32.toNat_add, -UInt8.toNat_add, -List.map_take, -List.map_drop, ← List.map_take, ← List.map_drop, -List.length_take, -List.length_drop, -List.map_replicate, rep_pY0, rep_pB0, rep_pI0, e_law08_WalkSteps.eq_1, Try.results17, h_ref07_Table, Ok_ref07_Table, h_walk_Breaks, Ok_walk_Breaks, h_walk_State, Ok_walk_State, h_walk_Class, Ok_walk_Class, h_w, hw, hwd, hV, hB]
  have hv := validE_iff.1 hV
  have h5 := hv.cnt.n
  have hl2 : l.length < 2 ^ 40 := by omega
  simp -implicitDefEqProofs +contextual (maxSteps := 4000000) [-Int.not_le, -Int.not_lt, -Nat.not_le, -Nat.not_lt, -UInt32.toNat_or, -UInt32.toNat_xor, -UInt32.toNat_and, -UInt8.toNat_or, -UInt8.toNat_xor, -UInt8.toNat_and, -UInt32.toNat_add, -UInt8.toNat_add, -List.map_take, -List.map_drop, ← List.map_take, ← List.map_drop, -List.length_take, -List.length_drop, -List.map_replicate, rep_pY0, rep_pB0, rep_pI0, e_law08_WalkSteps.eq_1, Try.results17, h_ref07_Table, Ok_ref07_Table, h_walk_Breaks, Ok_walk_Breaks, h_walk_State, Ok_walk_State, h_walk_Class, Ok_walk_Class, h_w, hw, hwd, hV, hB]
  refine loopu (fun (x : Nat × List Nat × Nat) => x.1 ≤ l.length ∧ x.2.2 < t.next.length ∧ stsL t 0 (l.take x.1) = some (x.2.1 ++ [x.2.2]))
    (fun x => [(5, pI x.2.2), (6, pI x.1)])
    (fun x => l.length - x.1) ?_ (s := (0, [], 0)) rfl ⟨Nat.zero_le _, by simp only; omega, rfl⟩
  rintro ⟨i, p, s⟩ ⟨hi, hs, hp⟩
  simp only at hi hs hp
  by_cases hlt : i < l.length
  case neg =>
    simp -implicitDefEqProofs +contextual (maxSteps := 4000000) [-Int.not_le, -Int.not_lt, -Nat.not_le, -Nat.not_lt, -UInt32.toNat_or, -UInt32.toNat_xor, -UInt32.toNat_and, -UInt8.toNat_or, -UInt8.toNat_xor, -UInt8.toNat_and, -UInt32.toNat_add, -UInt8.toNat_add, -List.map_take, -List.map_drop, ← List.map_take, ← List.map_drop, -List.length_take, -List.length_drop, -List.map_replicate, rep_pY0, rep_pB0, rep_pI0, e_law08_WalkSteps.eq_1, Try.results17, h_ref07_Table, Ok_ref07_Table, h_walk_Breaks, Ok_walk_Breaks, h_walk_State, Ok_walk_State, h_walk_Class, Ok_walk_Class, hlt, h_w, hw]
  have hlt' : (i : Int) < l.length := by omega
  have htl : (List.take (i + 1) l).length = i + 1 := by rw [List.length_take]; omega
  have htl2 : (List.take (i + 1) l).length < 2 ^ 62 := by omega
  have tn : ((i : Int) + 1).toNat = i + 1 := by omega
  have e1 : clsB t l[i] = classB t.bands l[i] := by unfold clsB; simp [hV]
  have e2 : clsW t l[i] = classV t.bands l[i] := by unfold clsW; rw [if_pos hV]
  cases hc : classB t.bands l[i]
  · have hst := stsL_stop hlt hp hc
    have n1 : stsV t l = none := by unfold stsV; rw [if_pos hV, hst]
    have n2 : stsV t (l.take (i + 1)) = none := by unfold stsV; rw [if_pos hV, take_succ' hlt, stsL_snoc hp, if_neg (by simp [hc])]
    have e3 : staB t (l.take (i + 1)) = false := by unfold staB; rw [n2]; rfl
    have e4 : staB t l = false := by unfold staB; rw [n1]; rfl
    rw [hc] at e1
    simp -implicitDefEqProofs +contextual (maxSteps := 4000000) [-Int.not_le, -Int.not_lt, -Nat.not_le, -Nat.not_lt, -UInt32.toNat_or, -UInt32.toNat_xor, -UInt32.toNat_and, -UInt8.toNat_or, -UInt8.toNat_xor, -UInt8.toNat_and, -UInt32.toNat_add, -UInt8.toNat_add, -List.map_take, -List.map_drop, ← List.map_take, ← List.map_drop, -List.length_take, -List.length_drop, -List.map_replicate, rep_pY0, rep_pB0, rep_pI0, e_law08_WalkSteps.eq_1, Try.results17, h_ref07_Table, Ok_ref07_Table, h_walk_Breaks, Ok_walk_Breaks, h_walk_State, Ok_walk_State, h_walk_Class, Ok_walk_Class, hlt, hlt', hwd, htl2, tn, e1, e2, e3, e4, h_w, hw, hl2]
    exact ⟨by decide +kernel, by unfold fits; omega, fun _ => ⟨by omega, fun _ _ => by decide +kernel⟩⟩
  · have hst := stsL_step hlt hp hc
    have hcl := hv.class hc
    have hrr := hv.cnt.r _ (List.getElem_mem hs)
    have h4 : (classV t.bands l[i]).toNat < t.next[s].length := by omega
    have e := nx_eq hs h4 hv.nxt
    have h6 : classV t.bands l[i] < t.next[s].length := by omega
    have hnx := inn_of hv.cnt hv.nxt s (classV t.bands l[i]).toNat hs (by omega)
    have n2 : stsV t (l.take (i + 1)) = some (p ++ [s] ++ [nx t s (classV t.bands l[i]).toNat]) := by unfold stsV; rw [if_pos hV, hst]
    have e3 : staB t (l.take (i + 1)) = true := by unfold staB; rw [n2]; rfl
    have e4 : staV t (l.take (i + 1)) = (nx t s (classV t.bands l[i]).toNat : Nat) := by unfold staV; rw [n2]; simp
    rw [hc] at e1
    have c0 : ¬ classV t.bands l[i] < 0 := by omega
    have c1 : ¬ t.classes ≤ classV t.bands l[i] := by omega
    simp -implicitDefEqProofs +contextual (maxSteps := 4000000) [-Int.not_le, -Int.not_lt, -Nat.not_le, -Nat.not_lt, -UInt32.toNat_or, -UInt32.toNat_xor, -UInt32.toNat_and, -UInt8.toNat_or, -UInt8.toNat_xor, -UInt8.toNat_and, -UInt32.toNat_add, -UInt8.toNat_add, -List.map_take, -List.map_drop, ← List.map_take, ← List.map_drop, -List.length_take, -List.length_drop, -List.map_replicate, rep_pY0, rep_pB0, rep_pI0, e_law08_WalkSteps.eq_1, Try.results17, h_ref07_Table, Ok_ref07_Table, h_walk_Breaks, Ok_walk_Breaks, h_walk_State, Ok_walk_State, h_walk_Class, Ok_walk_Class, hlt, hlt', hwd, htl2, tn, e1, e2, e3, e4, c0, c1, hs, h4, h6, hcl.1, ← e]
    exact ⟨by decide +kernel, by unfold fits; omega, fun _ => ⟨by omega, fun _ _ => ⟨by decide +kernel, i + 1, _, _, ⟨by omega, hnx, hst⟩, by omega, rfl, by omega⟩⟩⟩
theorem law_law08_WalkSteps_eq (t : Tab) (w : wfT t) (l : List Int) (wl : l.length ≤ maxLen ∧ ∀ x ∈ l, fits x) : g_law08_WalkSteps [pT t, sI l] = some (pB true, []) :=
  Ok_eq (by
    rw [Ok_law08_WalkSteps]
    have h3 := wl.1
    unfold maxLen at h3
    exact ⟨⟨wfT_len w, by omega⟩, rfl⟩)

end Go.V
