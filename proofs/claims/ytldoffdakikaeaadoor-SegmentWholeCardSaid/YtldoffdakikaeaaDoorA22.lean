/- A part of the proof of SegmentWhole: contracts of functions, or what these lean on. No condition. -/
import Derived.Test.YtldoffdakikaeaaDoorA18
import Derived.Test.YtldoffdakikaeaaDoorVMp
namespace Go.V
open Go.Proofs
set_option maxRecDepth 8000
set_option linter.unusedSimpArgs false
set_option linter.unusedVariables false
def e_ref07_nexts : Tab → List PV := fun t => [pT t]
noncomputable def g_ref07_nexts : List PV → Option (PV × List PV) := spec e_ref07_nexts (fun t => small t) fun t => (pB (nxtV t), [])
theorem e_ref07_nexts_inj (a b : Tab) (h : e_ref07_nexts a = e_ref07_nexts b) : a = b := by
  obtain ⟨t1a, t1b, t1c, t1d⟩ := a; obtain ⟨t2a, t2b, t2c, t2d⟩ := b; simp [e_ref07_nexts, map_pI_inj, map_pB_inj, map_pY_inj, map_pBand_inj, map_sI_inj, str_inj, Int.natCast_inj, UInt8.toNat_inj, UInt32.toNat_inj] at h; first | exact h | (simp [h]; done) | exact UInt32.toNat_inj.1 (by omega) | exact UInt8.toNat_inj.1 (by omega) | (simp only [Prod.mk.injEq, ← UInt8.toNat_inj, ← UInt32.toNat_inj] at *; omega) | grind
theorem Ok_ref07_nexts {t : Tab} {K : PV × List PV → Prop} : Ok (g_ref07_nexts [pT t]) K = ((small t) ∧ K (pB (nxtV t), [])) := Ok_spec e_ref07_nexts_inj t
set_option maxHeartbeats 1000000 in
theorem impl_ref07_nexts {tbl : Tbl} {G : Nat → Option (List PV)} (hT : Tb tbl G) : Impl Tryd.prog G 52 (g_ref07_nexts) := by
  refine impl_p (E := En tbl G 45 k_ref07_nexts []) (c := _) hT mixed Tryd.func52 rfl rfl (fun a => by simp [e_ref07_nexts, pinned.eq_1, pinned.eq_2, PV.isMut.eq_1, PV.isMut.eq_2]) ?_
  rintro t hok
  refine ⟨by simp [e_ref07_nexts], ?_⟩
  replace hok : small t := hok
  have hsm := hok
  unfold small at hok
  simp -implicitDefEqProofs +contextual (maxSteps := 4000000) [-Int.not_le, -Int.not_lt, -Nat.not_le, -Nat.not_lt, -UInt32.toNat_or, -UInt32.toNat_xor, -UInt32.toNat_and, -UInt8.toNat_or, -UInt8.toNat_xor, -UInt8.toNat_and, -UInt32.toNat_add, -UInt8.toNat_add, -List.map_take, -List.map_drop, ← List.map_take, ← List.map_drop, -List.length_take, -List.length_drop, -List.map_replicate, rep_pY0, rep_pB0, rep_pI0, e_ref07_nexts.eq_1, Tryd.results52]
  refine loopu (fun i => i ≤ t.next.length ∧ ∀ x ∈ t.next.take i, ∀ n ∈ x, 0 ≤ n ∧ n < t.next.length)
    (fun i => [(3, pI i)])
    (fun i => t.next.length - i) ?_ (s := 0) rfl (by simp)
  rintro i ⟨hi, hp⟩
  simp -implicitDefEqProofs +contextual (maxSteps := 4000000) [-Int.not_le, -Int.not_lt, -Nat.not_le, -Nat.not_lt, -UInt32.toNat_or, -UInt32.toNat_xor, -UInt32.toNat_and, -UInt8.toNat_or, -UInt8.toNat_xor, -UInt8.toNat_and, -UInt32.toNat_add, -UInt8.toNat_add, -List.map_take, -List.map_drop, ← List.map_take, ← List.map_drop, -List.length_take, -List.length_drop, -List.map_replicate, rep_pY0, rep_pB0, rep_pI0, e_ref07_nexts.eq_1, Tryd.results52]
  refine ⟨fun a => ?_, fun a => nxtV_iff.2 (by rw [List.take_of_length_le (by omega)] at hp; exact hp)⟩
  have hr := hok.2 _ (List.getElem_mem a)
  refine loopu (fun c => c ≤ t.next[i].length ∧ ∀ n ∈ t.next[i].take c, 0 ≤ n ∧ n < t.next.length)
    (fun c => [(4, pI c)])
    (fun c => t.next[i].length - c) ?_ (s := 0) rfl (by simp)
  rintro c ⟨hc, hq⟩
  have no : ∀ h : c < t.next[i].length, ¬ (0 ≤ t.next[i][c] ∧ t.next[i][c] < t.next.length) → nxtV t = false := fun h hh => by
    rw [← Bool.not_eq_true, nxtV_iff]; intro hall; exact hh (hall _ (List.getElem_mem a) _ (List.getElem_mem h))
  by_cases hlt : c < t.next[i].length
  · have hlt' : (c : Int) < t.next[i].length := by omega
    by_cases n1 : t.next[i][c] < 0
    · have e := no hlt (by omega)
      simp -implicitDefEqProofs +contextual (maxSteps := 4000000) [-Int.not_le, -Int.not_lt, -Nat.not_le, -Nat.not_lt, -UInt32.toNat_or, -UInt32.toNat_xor, -UInt32.toNat_and, -UInt8.toNat_or, -UInt8.toNat_xor, -UInt8.toNat_and, -UInt32.toNat_add, -UInt8.toNat_add, -List.map_take, -List.map_drop, ← List.map_take, ← List.map_drop, -List.length_take, -List.length_drop, -List.map_replicate, rep_pY0, rep_pB0, rep_pI0, e_ref07_nexts.eq_1, Tryd.results52, a, hlt, hlt', n1, e]
      (repeat' (first | exact (show drawD _ _ = true by decide +kernel) | exact (show _ = List.range' _ _ from rfl) | with_reducible refine and_imp_self' ?_ ?_ | with_reducible refine And.intro ?_ ?_ | with_reducible refine @Exists.intro Nat _ (i + 1) ?_ | with_reducible refine Exists.intro (show (_ : Nat) < _ by omega) ?_ | intro _)) <;> (try (first | omega | (unfold fits; omega) | assumption | with_reducible rfl | (simp only [inR_iff, inR_not, fits_iff] at *; omega)))
    · by_cases n2 : (t.next.length : Int) ≤ t.next[i][c]
      · have e := no hlt (by omega)
        simp -implicitDefEqProofs +contextual (maxSteps := 4000000) [-Int.not_le, -Int.not_lt, -Nat.not_le, -Nat.not_lt, -UInt32.toNat_or, -UInt32.toNat_xor, -UInt32.toNat_and, -UInt8.toNat_or, -UInt8.toNat_xor, -UInt8.toNat_and, -UInt32.toNat_add, -UInt8.toNat_add, -List.map_take, -List.map_drop, ← List.map_take, ← List.map_drop, -List.length_take, -List.length_drop, -List.map_replicate, rep_pY0, rep_pB0, rep_pI0, e_ref07_nexts.eq_1, Tryd.results52, a, hlt, hlt', n1, n2, e]
        (repeat' (first | exact (show drawD _ _ = true by decide +kernel) | exact (show _ = List.range' _ _ from rfl) | with_reducible refine and_imp_self' ?_ ?_ | with_reducible refine And.intro ?_ ?_ | with_reducible refine @Exists.intro Nat _ (i + 1) ?_ | with_reducible refine Exists.intro (show (_ : Nat) < _ by omega) ?_ | intro _)) <;> (try (first | omega | (unfold fits; omega) | assumption | with_reducible rfl | (simp only [inR_iff, inR_not, fits_iff] at *; omega)))
      · simp -implicitDefEqProofs +contextual (maxSteps := 4000000) [-Int.not_le, -Int.not_lt, -Nat.not_le, -Nat.not_lt, -UInt32.toNat_or, -UInt32.toNat_xor, -UInt32.toNat_and, -UInt8.toNat_or, -UInt8.toNat_xor, -UInt8.toNat_and, -UInt32.toNat_add, -UInt8.toNat_add, -List.map_take, -List.map_drop, ← List.map_take, ← List.map_drop, -List.length_take, -List.length_drop, -List.map_replicate, rep_pY0, rep_pB0, rep_pI0, e_ref07_nexts.eq_1, Tryd.results52, a, hlt, hlt', n1, n2]
        refine ⟨by decide +kernel, by unfold fits; omega, fun _ => ⟨c + 1, ⟨by omega, fun n hn => ?_⟩, by omega, by omega⟩⟩
        rw [take_succ' hlt] at hn
        rcases List.mem_append.1 hn with hn | hn
        · exact hq n hn
        · obtain rfl := List.mem_singleton.1 hn; omega
  · have hlt' : ¬ (c : Int) < t.next[i].length := by omega
    simp -implicitDefEqProofs +contextual (maxSteps := 4000000) [-Int.not_le, -Int.not_lt, -Nat.not_le, -Nat.not_lt, -UInt32.toNat_or, -UInt32.toNat_xor, -UInt32.toNat_and, -UInt8.toNat_or, -UInt8.toNat_xor, -UInt8.toNat_and, -UInt32.toNat_add, -UInt8.toNat_add, -List.map_take, -List.map_drop, ← List.map_take, ← List.map_drop, -List.length_take, -List.length_drop, -List.map_replicate, rep_pY0, rep_pB0, rep_pI0, e_ref07_nexts.eq_1, Tryd.results52, a, hlt']
    refine ⟨by unfold fits; omega, fun _ => ⟨i + 1, ⟨by omega, fun x hx => ?_⟩, by omega, by omega⟩⟩
    rw [take_succ' a] at hx
    rcases List.mem_append.1 hx with hx | hx
    · exact hp x hx
    · obtain rfl := List.mem_singleton.1 hx
      rw [List.take_of_length_le (by omega)] at hq; exact hq

end Go.V
