/- A part of the proof of SegmentWhole: contracts of functions, or what these lean on. No condition. -/
import Derived.Test.YtldoffdakikaeaaDoorA18
import Derived.Test.YtldoffdakikaeaaDoorVMp
namespace Go.V
open Go.Proofs
set_option maxRecDepth 8000
set_option linter.unusedSimpArgs false
set_option linter.unusedVariables false
def e_ref07_counts : Tab → List PV := fun t => [pT t]
noncomputable def g_ref07_counts : List PV → Option (PV × List PV) := spec e_ref07_counts (fun t => wide t) fun t => (pB (cntV t), [])
theorem e_ref07_counts_inj (a b : Tab) (h : e_ref07_counts a = e_ref07_counts b) : a = b := by
  obtain ⟨t1a, t1b, t1c, t1d⟩ := a; obtain ⟨t2a, t2b, t2c, t2d⟩ := b; simp [e_ref07_counts, map_pI_inj, map_pB_inj, map_pY_inj, map_pBand_inj, map_sI_inj, str_inj, Int.natCast_inj, UInt8.toNat_inj, UInt32.toNat_inj] at h; first | exact h | (simp [h]; done) | exact UInt32.toNat_inj.1 (by omega) | exact UInt8.toNat_inj.1 (by omega) | (simp only [Prod.mk.injEq, ← UInt8.toNat_inj, ← UInt32.toNat_inj] at *; omega) | grind
theorem Ok_ref07_counts {t : Tab} {K : PV × List PV → Prop} : Ok (g_ref07_counts [pT t]) K = ((wide t) ∧ K (pB (cntV t), [])) := Ok_spec e_ref07_counts_inj t
set_option maxHeartbeats 1000000 in
theorem impl_ref07_counts {tbl : Tbl} {G : Nat → Option (List PV)} (hT : Tb tbl G) : Impl Tryd.prog G 51 (g_ref07_counts) := by
  refine impl_p (E := En tbl G 57 k_ref07_counts []) (c := _) hT mixed Tryd.func51 rfl rfl (fun a => by simp [e_ref07_counts, pinned.eq_1, pinned.eq_2, PV.isMut.eq_1, PV.isMut.eq_2]) ?_
  rintro t hok
  refine ⟨by simp [e_ref07_counts], ?_⟩
  replace hok : wide t := hok
  unfold wide at hok
  simp -implicitDefEqProofs +contextual (maxSteps := 4000000) [-Int.not_le, -Int.not_lt, -Nat.not_le, -Nat.not_lt, -UInt32.toNat_or, -UInt32.toNat_xor, -UInt32.toNat_and, -UInt8.toNat_or, -UInt8.toNat_xor, -UInt8.toNat_and, -UInt32.toNat_add, -UInt8.toNat_add, -List.map_take, -List.map_drop, ← List.map_take, ← List.map_drop, -List.length_take, -List.length_drop, -List.map_replicate, rep_pY0, rep_pB0, rep_pI0, e_ref07_counts.eq_1, Tryd.results51]
  refine loopu (fun i => i ≤ t.next.length ∧ ∀ x ∈ t.next.take i, (x.length : Int) = t.classes)
    (fun i => [(4, pI i)])
    (fun i => t.next.length - i) ?_ (s := 0) rfl (by simp)
  rintro i ⟨hi, hp⟩
  by_cases hlt : (i : Int) < t.next.length
  · simp -implicitDefEqProofs +contextual (maxSteps := 4000000) [-Int.not_le, -Int.not_lt, -Nat.not_le, -Nat.not_lt, -UInt32.toNat_or, -UInt32.toNat_xor, -UInt32.toNat_and, -UInt8.toNat_or, -UInt8.toNat_xor, -UInt8.toNat_and, -UInt32.toNat_add, -UInt8.toNat_add, -List.map_take, -List.map_drop, ← List.map_take, ← List.map_drop, -List.length_take, -List.length_drop, -List.map_replicate, rep_pY0, rep_pB0, rep_pI0, e_ref07_counts.eq_1, Tryd.results51, hlt]
    have hlt' : i < t.next.length := by omega
    refine ⟨by decide +kernel, hlt', fun a => ?_, fun a => ⟨by unfold fits; omega, fun _ => ⟨i + 1, ⟨by omega, fun x hx => ?_⟩, by omega, by omega⟩⟩⟩
    · rw [← Bool.not_eq_true, cntV_iff]; intro h; exact a (h.r _ (List.getElem_mem hlt'))
    · rw [take_succ' hlt'] at hx
      rcases List.mem_append.1 hx with hx | hx
      · exact hp x hx
      · obtain rfl := List.mem_singleton.1 hx; exact a
  · simp -implicitDefEqProofs +contextual (maxSteps := 4000000) [-Int.not_le, -Int.not_lt, -Nat.not_le, -Nat.not_lt, -UInt32.toNat_or, -UInt32.toNat_xor, -UInt32.toNat_and, -UInt8.toNat_or, -UInt8.toNat_xor, -UInt8.toNat_and, -UInt32.toNat_add, -UInt8.toNat_add, -List.map_take, -List.map_drop, ← List.map_take, ← List.map_drop, -List.length_take, -List.length_drop, -List.map_replicate, rep_pY0, rep_pB0, rep_pI0, e_ref07_counts.eq_1, Tryd.results51, hlt]
    rw [List.take_of_length_le (by omega)] at hp
    have hall : (t.next.all fun l => decide ((l.length : Int) = t.classes)) = true := List.all_eq_true.2 fun x hx => by simpa using hp x hx
    have e : cntV t = (inR t.classes 1 8 && inR t.next.length 1 5 && inR t.bands.length 1 60 && decide ((t.brk.length : Int) = t.next.length)) := by
      rw [cntV_eq]; unfold shpV; rw [hall]; simp
    rw [e]; unfold inR
    refine ⟨fun a => ⟨fun b => ⟨fun c => ⟨fun d => ⟨fun f => ⟨fun g => ?_, fun g => ?_⟩, fun f => ?_⟩, fun d => ?_⟩, fun c => ?_⟩, fun b => ?_⟩, fun a => ?_⟩ <;> simp [*]

end Go.V
