/- A part of the proof of SegmentWhole: contracts of functions, or what these lean on. No condition. -/
import Derived.Test.YtldoffdakikaeaaDoorA19
import Derived.Test.YtldoffdakikaeaaDoorA21
import Derived.Test.YtldoffdakikaeaaDoorA22
import Derived.Test.YtldoffdakikaeaaDoorA23
namespace Go.V
open Go.Proofs
set_option maxRecDepth 8000
set_option linter.unusedSimpArgs false
set_option linter.unusedVariables false
theorem apM_len {t : Tab} : (apM t).length = t.next.length := by simp [apM]
theorem apM_row {t : Tab} {a : Nat} (h : a < (apM t).length) : (apM t)[a].length = t.next.length := by simp [apM]
theorem apM_get {t : Tab} {a b : Nat} (h1 : a < (apM t).length) (h2 : b < (apM t)[a].length) : (apM t)[a][b] = !alk t a b := by simp [apM]
theorem take_eq_succ {l m : List Int} {s : Nat} (h1 : s < l.length) (h2 : s < m.length) : (l.take (s + 1) == m.take (s + 1)) = ((l.take s == m.take s) && decide (l[s] = m[s])) := by
  rw [Bool.eq_iff_iff, Bool.and_eq_true, beq_iff_eq, beq_iff_eq, decide_eq_true_eq, take_succ' h1, take_succ' h2]
  constructor
  · intro h
    have := List.append_inj' h rfl
    exact ⟨this.1, by simpa using this.2⟩
  · rintro ⟨h, e⟩; rw [h, e]
def e_ref07_Table : Tab → List PV := fun t => [pT t]
noncomputable def g_ref07_Table : List PV → Option (PV × List PV) := spec e_ref07_Table (fun t => wide t) fun t => (pI (validE t), [])
theorem e_ref07_Table_inj (a b : Tab) (h : e_ref07_Table a = e_ref07_Table b) : a = b := by
  obtain ⟨t1a, t1b, t1c, t1d⟩ := a; obtain ⟨t2a, t2b, t2c, t2d⟩ := b; simp [e_ref07_Table, map_pI_inj, map_pB_inj, map_pY_inj, map_pBand_inj, map_sI_inj, str_inj, Int.natCast_inj, UInt8.toNat_inj, UInt32.toNat_inj] at h; first | exact h | (simp [h]; done) | exact UInt32.toNat_inj.1 (by omega) | exact UInt8.toNat_inj.1 (by omega) | (simp only [Prod.mk.injEq, ← UInt8.toNat_inj, ← UInt32.toNat_inj] at *; omega) | grind
theorem Ok_ref07_Table {t : Tab} {K : PV × List PV → Prop} : Ok (g_ref07_Table [pT t]) K = ((wide t) ∧ K (pI (validE t), [])) := Ok_spec e_ref07_Table_inj t
set_option maxHeartbeats 8000000 in
theorem impl_ref07_Table {tbl : Tbl} {G : Nat → Option (List PV)} (hT : Tb tbl G) (h_ref01_Is : tbl 50 = g_ref01_Is) (h_ref07_counts : tbl 51 = g_ref07_counts) (h_ref07_nexts : tbl 52 = g_ref07_nexts) (h_ref07_apart : tbl 53 = g_ref07_apart) : Impl Tryd.prog G 28 (g_ref07_Table) := by
  refine impl_p (E := En tbl G 211 k_ref07_Table []) (c := _) hT mixed Tryd.func28 rfl rfl (fun a => by simp [e_ref07_Table, pinned.eq_1, pinned.eq_2, PV.isMut.eq_1, PV.isMut.eq_2]) ?_
  rintro t hok
  refine ⟨by simp [e_ref07_Table], ?_⟩
  replace hok : wide t := hok
  have hwd := hok
  unfold wide at hok
  cases h1 : cntV t
  · have e : validE t = 24 := by simp [validE, h1]
    simp -implicitDefEqProofs +contextual (maxSteps := 4000000) [-Int.not_le, -Int.not_lt, -Nat.not_le, -Nat.not_lt, -UInt32.toNat_or, -UInt32.toNat_xor, -UInt32.toNat_and, -UInt8.toNat_or, -UInt8.toNat_xor, -UInt8.toNat_and, -UInt32.toNat_add, -UInt8.toNat_add, -List.map_take, -List.map_drop, ← List.map_take, ← List.map_drop, -List.length_take, -List.length_drop, -List.map_replicate, rep_pY0, rep_pB0, rep_pI0, e_ref07_Table.eq_1, Tryd.results28, h_ref01_Is, Ok_ref01_Is, h_ref07_counts, Ok_ref07_counts, h_ref07_nexts, Ok_ref07_nexts, h_ref07_apart, Ok_ref07_apart, hwd, h1, e]
  have hC := cntV_iff.1 h1
  have hsm := hC.small
  have e26 : bndV t.bands = false → validE t = 26 := fun h => by simp [validE, h1, h]
  have h5 := hC.n
  have h8 := hC.c
  have h60 := hC.b
  have hl : (clsL t).length = t.bands.length := by unfold clsL; simp
  have hcl : ∀ {i} (h : i < t.bands.length), (clsL t)[i]'(by rw [hl]; exact h) = t.bands[i].2 := fun {i} h => by simp [clsL]
  simp -implicitDefEqProofs +contextual (maxSteps := 4000000) [-Int.not_le, -Int.not_lt, -Nat.not_le, -Nat.not_lt, -UInt32.toNat_or, -UInt32.toNat_xor, -UInt32.toNat_and, -UInt8.toNat_or, -UInt8.toNat_xor, -UInt8.toNat_and, -UInt32.toNat_add, -UInt8.toNat_add, -List.map_take, -List.map_drop, ← List.map_take, ← List.map_drop, -List.length_take, -List.length_drop, -List.map_replicate, rep_pY0, rep_pB0, rep_pI0, e_ref07_Table.eq_1, Tryd.results28, h_ref01_Is, Ok_ref01_Is, h_ref07_counts, Ok_ref07_counts, h_ref07_nexts, Ok_ref07_nexts, h_ref07_apart, Ok_ref07_apart, hwd, hsm, h1]
  refine loopu (fun i => i ≤ t.bands.length ∧ ∀ j, j < i → bOk t.bands j = true)
    (fun i => [(3, pI i)])
    (fun i => t.bands.length - i) ?_ (s := 0) rfl (by simp)
  rintro i ⟨hi, hp⟩
  by_cases hlt : (i : Int) < t.bands.length
  · have hlt' : i < t.bands.length := by omega
    rcases Nat.eq_zero_or_pos i with rfl | hpos
    · simp -implicitDefEqProofs +contextual (maxSteps := 4000000) [-Int.not_le, -Int.not_lt, -Nat.not_le, -Nat.not_lt, -UInt32.toNat_or, -UInt32.toNat_xor, -UInt32.toNat_and, -UInt8.toNat_or, -UInt8.toNat_xor, -UInt8.toNat_and, -UInt32.toNat_add, -UInt8.toNat_add, -List.map_take, -List.map_drop, ← List.map_take, ← List.map_drop, -List.length_take, -List.length_drop, -List.map_replicate, rep_pY0, rep_pB0, rep_pI0, e_ref07_Table.eq_1, Tryd.results28, h_ref01_Is, Ok_ref01_Is, h_ref07_counts, Ok_ref07_counts, h_ref07_nexts, Ok_ref07_nexts, h_ref07_apart, Ok_ref07_apart, hlt, hlt']
      have e := bOk_zero hlt'
      refine ⟨fun b => ⟨fun c => ⟨by decide +kernel, by decide, fun _ => ⟨1, ⟨by omega, fun j hj => ?_⟩, by omega, rfl⟩⟩, fun c => ⟨by decide +kernel, (e26 (bndV_no hlt' (by rw [e, b]; simp [c]))).symm⟩⟩, fun b => ⟨by decide +kernel, (e26 (bndV_no hlt' (by rw [e]; simp [b]))).symm⟩⟩
      obtain rfl : j = 0 := by omega
      rw [e, b, c]; rfl
    · have i0 : ¬ i = 0 := by omega
      have i1 : (1 : Int) ≤ i := by omega
      have tn1 : ((i : Int) - 1).toNat = i - 1 := by omega
      simp -implicitDefEqProofs +contextual (maxSteps := 4000000) [-Int.not_le, -Int.not_lt, -Nat.not_le, -Nat.not_lt, -UInt32.toNat_or, -UInt32.toNat_xor, -UInt32.toNat_and, -UInt8.toNat_or, -UInt8.toNat_xor, -UInt8.toNat_and, -UInt32.toNat_add, -UInt8.toNat_add, -List.map_take, -List.map_drop, ← List.map_take, ← List.map_drop, -List.length_take, -List.length_drop, -List.map_replicate, rep_pY0, rep_pB0, rep_pI0, e_ref07_Table.eq_1, Tryd.results28, h_ref01_Is, Ok_ref01_Is, h_ref07_counts, Ok_ref07_counts, h_ref07_nexts, Ok_ref07_nexts, h_ref07_apart, Ok_ref07_apart, hlt, hlt', i0, i1, hpos, tn1]
      have e := bOk_succ i0 hlt'
      refine ⟨fun b => ⟨by unfold fits; omega, fun _ => ⟨by omega, fun _ => ⟨by omega, fun c => ⟨by decide +kernel, fun d => (e26 (bndV_no hlt' (by rw [e]; simp [d]))).symm, fun d => ⟨by unfold fits; omega, fun _ => ⟨i + 1, ⟨by omega, fun j hj => ?_⟩, by omega, by omega⟩⟩⟩, fun c => ⟨by decide +kernel, (e26 (bndV_no hlt' (by rw [e]; simp; omega))).symm⟩⟩⟩⟩, fun b => ⟨by decide +kernel, (e26 (bndV_no hlt' (by rw [e]; simp [b]))).symm⟩⟩
      rcases (show j < i ∨ j = i by omega) with k | rfl
      · exact hp j k
      · rw [e, b]; simp [d]; omega
  have h2 : bndV t.bands = true := bndV_iff.2 fun j hj => hp j (by omega)
  clear hp hi
  have e27 : clsV t = false → validE t = 27 := fun h => by simp [validE, h1, h2, h]
  simp -implicitDefEqProofs +contextual (maxSteps := 4000000) [-Int.not_le, -Int.not_lt, -Nat.not_le, -Nat.not_lt, -UInt32.toNat_or, -UInt32.toNat_xor, -UInt32.toNat_and, -UInt8.toNat_or, -UInt8.toNat_xor, -UInt8.toNat_and, -UInt32.toNat_add, -UInt8.toNat_add, -List.map_take, -List.map_drop, ← List.map_take, ← List.map_drop, -List.length_take, -List.length_drop, -List.map_replicate, rep_pY0, rep_pB0, rep_pI0, e_ref07_Table.eq_1, Tryd.results28, h_ref01_Is, Ok_ref01_Is, h_ref07_counts, Ok_ref07_counts, h_ref07_nexts, Ok_ref07_nexts, h_ref07_apart, Ok_ref07_apart, hlt]
  refine loopu (fun (x : Nat × Int) => x.1 ≤ t.bands.length ∧ ordR 0 ((clsL t).take x.1) = (x.2, true) ∧ 0 ≤ x.2 ∧ x.2 ≤ x.1)
    (fun x => [(5, pI x.2), (6, pI x.1)])
    (fun x => t.bands.length - x.1) ?_ (s := (0, 0)) rfl ⟨Nat.zero_le _, rfl, by omega, by omega⟩
  clear hlt
  rintro ⟨i, c⟩ ⟨hi, hp, hc1, hc2⟩
  simp only at hi hp hc1 hc2
  by_cases hlt : (i : Int) < t.bands.length
  · have hlt' : i < t.bands.length := by omega
    simp -implicitDefEqProofs +contextual (maxSteps := 4000000) [-Int.not_le, -Int.not_lt, -Nat.not_le, -Nat.not_lt, -UInt32.toNat_or, -UInt32.toNat_xor, -UInt32.toNat_and, -UInt8.toNat_or, -UInt8.toNat_xor, -UInt8.toNat_and, -UInt32.toNat_add, -UInt8.toNat_add, -List.map_take, -List.map_drop, ← List.map_take, ← List.map_drop, -List.length_take, -List.length_drop, -List.map_replicate, rep_pY0, rep_pB0, rep_pI0, e_ref07_Table.eq_1, Tryd.results28, h_ref01_Is, Ok_ref01_Is, h_ref07_counts, Ok_ref07_counts, h_ref07_nexts, Ok_ref07_nexts, h_ref07_apart, Ok_ref07_apart, hlt, hlt']
    have hci := hcl hlt'
    have hli : i < (clsL t).length := by omega
    refine ⟨fun b => ⟨fun d => ⟨fun f => (e27 (clsV_big (List.getElem_mem hli) (by rw [hci]; exact f))).symm, fun f => ⟨fun g => ⟨by unfold fits; omega, fun _ => ⟨by unfold fits; omega, fun _ => ⟨i + 1, c + 1, ⟨by omega, ?_, by omega, by omega⟩, by omega, rfl, by omega⟩⟩⟩, fun g => ⟨by unfold fits; omega, fun _ => ⟨i + 1, c, ⟨by omega, ?_, by omega, by omega⟩, by omega, rfl, by omega⟩⟩⟩⟩, fun d => (e27 ?_).symm⟩, fun b => (e27 ?_).symm⟩
    · rw [ordR_step hli hp (by rw [hci]; exact b) (by rw [hci]; exact d), hci, if_pos g]
    · rw [ordR_step hli hp (by rw [hci]; exact b) (by rw [hci]; exact d), hci, if_neg g]
    · rw [← Bool.not_eq_true, clsV_iff, ordR_stop hli hp (.inr (by rw [hci]; exact d))]; simp
    · rw [← Bool.not_eq_true, clsV_iff, ordR_stop hli hp (.inl (by rw [hci]; exact b))]; simp
  have hp' := ordR_all (show ¬ i < (clsL t).length by omega) hp
  by_cases hcc : c = t.classes
  case neg =>
    have e := e27 (by rw [← Bool.not_eq_true, clsV_iff, hp']; simp [hcc])
    simp -implicitDefEqProofs +contextual (maxSteps := 4000000) [-Int.not_le, -Int.not_lt, -Nat.not_le, -Nat.not_lt, -UInt32.toNat_or, -UInt32.toNat_xor, -UInt32.toNat_and, -UInt8.toNat_or, -UInt8.toNat_xor, -UInt8.toNat_and, -UInt32.toNat_add, -UInt8.toNat_add, -List.map_take, -List.map_drop, ← List.map_take, ← List.map_drop, -List.length_take, -List.length_drop, -List.map_replicate, rep_pY0, rep_pB0, rep_pI0, e_ref07_Table.eq_1, Tryd.results28, h_ref01_Is, Ok_ref01_Is, h_ref07_counts, Ok_ref07_counts, h_ref07_nexts, Ok_ref07_nexts, h_ref07_apart, Ok_ref07_apart, hlt, hcc, e]
  subst hcc
  have h3 : clsV t = true := clsV_iff.2 hp'
  cases h4 : nxtV t
  · have e : validE t = 28 := by simp [validE, h1, h2, h3, h4]
    simp -implicitDefEqProofs +contextual (maxSteps := 4000000) [-Int.not_le, -Int.not_lt, -Nat.not_le, -Nat.not_lt, -UInt32.toNat_or, -UInt32.toNat_xor, -UInt32.toNat_and, -UInt8.toNat_or, -UInt8.toNat_xor, -UInt8.toNat_and, -UInt32.toNat_add, -UInt8.toNat_add, -List.map_take, -List.map_drop, ← List.map_take, ← List.map_drop, -List.length_take, -List.length_drop, -List.map_replicate, rep_pY0, rep_pB0, rep_pI0, e_ref07_Table.eq_1, Tryd.results28, h_ref01_Is, Ok_ref01_Is, h_ref07_counts, Ok_ref07_counts, h_ref07_nexts, Ok_ref07_nexts, h_ref07_apart, Ok_ref07_apart, hwd, hsm, hlt, h4, e]
  clear hp' hp hc1 hc2 hi
  have e29 : numV t = false → validE t = 29 := fun h => by simp [validE, h1, h2, h3, h4, h]
  have hn := nxtV_iff.1 h4
  simp -implicitDefEqProofs +contextual (maxSteps := 4000000) [-Int.not_le, -Int.not_lt, -Nat.not_le, -Nat.not_lt, -UInt32.toNat_or, -UInt32.toNat_xor, -UInt32.toNat_and, -UInt8.toNat_or, -UInt8.toNat_xor, -UInt8.toNat_and, -UInt32.toNat_add, -UInt8.toNat_add, -List.map_take, -List.map_drop, ← List.map_take, ← List.map_drop, -List.length_take, -List.length_drop, -List.map_replicate, rep_pY0, rep_pB0, rep_pI0, e_ref07_Table.eq_1, Tryd.results28, h_ref01_Is, Ok_ref01_Is, h_ref07_counts, Ok_ref07_counts, h_ref07_nexts, Ok_ref07_nexts, h_ref07_apart, Ok_ref07_apart, hwd, hsm, hlt, h4]
  refine loopu (fun (x : Nat × Int) => x.1 ≤ t.next.length ∧ numV t = numGo x.1 x.2 (t.next.drop x.1) ∧ (x.1 ≤ x.2 ∧ 1 ≤ x.2) ∧ x.2 ≤ t.next.length)
    (fun x => [(8, pI x.2), (9, pI x.1)])
    (fun x => t.next.length - x.1) ?_ (s := (0, 1)) rfl ⟨Nat.zero_le _, rfl, by simp, by omega⟩
  clear hlt
  rintro ⟨s, m⟩ ⟨hs, hp, ⟨hm1, hm0⟩, hm2⟩
  simp only at hs hp hm1 hm2 hm0
  by_cases hlt : (s : Int) < m
  · simp -implicitDefEqProofs +contextual (maxSteps := 4000000) [-Int.not_le, -Int.not_lt, -Nat.not_le, -Nat.not_lt, -UInt32.toNat_or, -UInt32.toNat_xor, -UInt32.toNat_and, -UInt8.toNat_or, -UInt8.toNat_xor, -UInt8.toNat_and, -UInt32.toNat_add, -UInt8.toNat_add, -List.map_take, -List.map_drop, ← List.map_take, ← List.map_drop, -List.length_take, -List.length_drop, -List.map_replicate, rep_pY0, rep_pB0, rep_pI0, e_ref07_Table.eq_1, Tryd.results28, h_ref01_Is, Ok_ref01_Is, h_ref07_counts, Ok_ref07_counts, h_ref07_nexts, Ok_ref07_nexts, h_ref07_apart, Ok_ref07_apart, hlt]
    have hsn : s < t.next.length := by omega
    have hrl := hC.r _ (List.getElem_mem hsn)
    have hnr := hn _ (List.getElem_mem hsn)
    rw [List.drop_eq_getElem_cons hsn, numGo, decide_eq_true hlt, Bool.true_and] at hp
    refine loopu (fun (x : Nat × Int) => x.1 ≤ t.next[s].length ∧ ordR m (t.next[s].take x.1) = (x.2, true) ∧ m ≤ x.2 ∧ x.2 ≤ t.next.length)
      (fun x => [(8, pI x.2), (10, pI x.1)])
      (fun x => t.next[s].length - x.1) ?_ (s := (0, m)) rfl ⟨Nat.zero_le _, rfl, by omega, by omega⟩
    rintro ⟨c, m'⟩ ⟨hc, hq, hm3, hm4⟩
    simp only at hc hq hm3 hm4
    by_cases hlc : (c : Int) < t.classes
    · have hcr : c < t.next[s].length := by omega
      have hv := hnr _ (List.getElem_mem hcr)
      simp -implicitDefEqProofs +contextual (maxSteps := 4000000) [-Int.not_le, -Int.not_lt, -Nat.not_le, -Nat.not_lt, -UInt32.toNat_or, -UInt32.toNat_xor, -UInt32.toNat_and, -UInt8.toNat_or, -UInt8.toNat_xor, -UInt8.toNat_and, -UInt32.toNat_add, -UInt8.toNat_add, -List.map_take, -List.map_drop, ← List.map_take, ← List.map_drop, -List.length_take, -List.length_drop, -List.map_replicate, rep_pY0, rep_pB0, rep_pI0, e_ref07_Table.eq_1, Tryd.results28, h_ref01_Is, Ok_ref01_Is, h_ref07_counts, Ok_ref07_counts, h_ref07_nexts, Ok_ref07_nexts, h_ref07_apart, Ok_ref07_apart, hlc, hsn, hcr]
      refine ⟨fun b => (e29 (by rw [hp, ordR_stop hcr hq (.inr b)]; rfl)).symm, fun b => ⟨fun d => ⟨by unfold fits; omega, fun _ => ⟨by unfold fits; omega, fun _ => ⟨c + 1, m' + 1, ⟨by omega, ?_, by omega, by omega⟩, by omega, rfl, by omega⟩⟩⟩, fun d => ⟨by unfold fits; omega, fun _ => ⟨c + 1, m', ⟨by omega, ?_, by omega, by omega⟩, by omega, rfl, by omega⟩⟩⟩⟩
      · rw [ordR_step hcr hq (by omega) b, if_pos d]
      · rw [ordR_step hcr hq (by omega) b, if_neg d]
    · simp -implicitDefEqProofs +contextual (maxSteps := 4000000) [-Int.not_le, -Int.not_lt, -Nat.not_le, -Nat.not_lt, -UInt32.toNat_or, -UInt32.toNat_xor, -UInt32.toNat_and, -UInt8.toNat_or, -UInt8.toNat_xor, -UInt8.toNat_and, -UInt32.toNat_add, -UInt8.toNat_add, -List.map_take, -List.map_drop, ← List.map_take, ← List.map_drop, -List.length_take, -List.length_drop, -List.map_replicate, rep_pY0, rep_pB0, rep_pI0, e_ref07_Table.eq_1, Tryd.results28, h_ref01_Is, Ok_ref01_Is, h_ref07_counts, Ok_ref07_counts, h_ref07_nexts, Ok_ref07_nexts, h_ref07_apart, Ok_ref07_apart, hlc]
      have hq' := ordR_all (show ¬ c < t.next[s].length by omega) hq
      exact ⟨by unfold fits; omega, fun _ => ⟨s + 1, m', ⟨by omega, by rw [hp, hq']; rfl, by omega, by omega⟩, by omega, rfl, by omega⟩⟩
  by_cases hmn : m = t.next.length
  case neg =>
    have hsn : s < t.next.length := by omega
    have e := e29 (by rw [hp, List.drop_eq_getElem_cons hsn, numGo, decide_eq_false hlt]; rfl)
    simp -implicitDefEqProofs +contextual (maxSteps := 4000000) [-Int.not_le, -Int.not_lt, -Nat.not_le, -Nat.not_lt, -UInt32.toNat_or, -UInt32.toNat_xor, -UInt32.toNat_and, -UInt8.toNat_or, -UInt8.toNat_xor, -UInt8.toNat_and, -UInt32.toNat_add, -UInt8.toNat_add, -List.map_take, -List.map_drop, ← List.map_take, ← List.map_drop, -List.length_take, -List.length_drop, -List.map_replicate, rep_pY0, rep_pB0, rep_pI0, e_ref07_Table.eq_1, Tryd.results28, h_ref01_Is, Ok_ref01_Is, h_ref07_counts, Ok_ref07_counts, h_ref07_nexts, Ok_ref07_nexts, h_ref07_apart, Ok_ref07_apart, hlt, hmn, e]
  subst hmn
  have h5' : numV t = true := by rw [hp, List.drop_eq_nil_of_le (by omega)]; rfl
  clear hp hm1 hm0 hm2 hs
  have e30 : lstV t = false → validE t = 30 := fun h => by simp [validE, h1, h2, h3, h4, h5', h]
  simp -implicitDefEqProofs +contextual (maxSteps := 4000000) [-Int.not_le, -Int.not_lt, -Nat.not_le, -Nat.not_lt, -UInt32.toNat_or, -UInt32.toNat_xor, -UInt32.toNat_and, -UInt8.toNat_or, -UInt8.toNat_xor, -UInt8.toNat_and, -UInt32.toNat_add, -UInt8.toNat_add, -List.map_take, -List.map_drop, ← List.map_take, ← List.map_drop, -List.length_take, -List.length_drop, -List.map_replicate, rep_pY0, rep_pB0, rep_pI0, e_ref07_Table.eq_1, Tryd.results28, h_ref01_Is, Ok_ref01_Is, h_ref07_counts, Ok_ref07_counts, h_ref07_nexts, Ok_ref07_nexts, h_ref07_apart, Ok_ref07_apart, hwd, hsm, hC, hlt, h4]
  refine loopu (fun a => a ≤ t.next.length ∧ ∀ a' b', a' < a → b' < a' → alk t a' b' = false)
    (fun a => [(12, pI a)])
    (fun a => t.next.length - a) ?_ (s := 0) rfl (by simp)
  clear hlt
  rintro a ⟨ha, hp⟩
  by_cases hlt : (a : Int) < t.next.length
  · have hlt' : a < t.next.length := by omega
    simp -implicitDefEqProofs +contextual (maxSteps := 4000000) [-Int.not_le, -Int.not_lt, -Nat.not_le, -Nat.not_lt, -UInt32.toNat_or, -UInt32.toNat_xor, -UInt32.toNat_and, -UInt8.toNat_or, -UInt8.toNat_xor, -UInt8.toNat_and, -UInt32.toNat_add, -UInt8.toNat_add, -List.map_take, -List.map_drop, ← List.map_take, ← List.map_drop, -List.length_take, -List.length_drop, -List.map_replicate, rep_pY0, rep_pB0, rep_pI0, e_ref07_Table.eq_1, Tryd.results28, h_ref01_Is, Ok_ref01_Is, h_ref07_counts, Ok_ref07_counts, h_ref07_nexts, Ok_ref07_nexts, h_ref07_apart, Ok_ref07_apart, hlt]
    refine loopu (fun b => b ≤ a ∧ ∀ b', b' < b → alk t a b' = false)
      (fun b => [(13, pI b)])
      (fun b => a - b) ?_ (s := 0) rfl (by simp)
    rintro b ⟨hb, hq⟩
    have q1 : a < (apM t).length := by rw [apM_len]; exact hlt'
    by_cases hba : b < a
    · have q2 : b < (apM t)[a].length := by rw [apM_row]; omega
      have hba' : (b : Int) < a := by omega
      simp -implicitDefEqProofs +contextual (maxSteps := 4000000) [-Int.not_le, -Int.not_lt, -Nat.not_le, -Nat.not_lt, -UInt32.toNat_or, -UInt32.toNat_xor, -UInt32.toNat_and, -UInt8.toNat_or, -UInt8.toNat_xor, -UInt8.toNat_and, -UInt32.toNat_add, -UInt8.toNat_add, -List.map_take, -List.map_drop, ← List.map_take, ← List.map_drop, -List.length_take, -List.length_drop, -List.map_replicate, rep_pY0, rep_pB0, rep_pI0, e_ref07_Table.eq_1, Tryd.results28, h_ref01_Is, Ok_ref01_Is, h_ref07_counts, Ok_ref07_counts, h_ref07_nexts, Ok_ref07_nexts, h_ref07_apart, Ok_ref07_apart, hba, hba', q1, q2, apM_get]
      refine ⟨fun d => (e30 (pairsV_no hlt' hba (by rw [d]; rfl))).symm, fun d => ⟨by unfold fits; omega, fun _ => ⟨b + 1, ⟨by omega, fun b' hb' => ?_⟩, by omega, by omega⟩⟩⟩
      rcases (show b' < b ∨ b' = b by omega) with h | rfl
      · exact hq b' h
      · exact d
    · have hba' : ¬ (b : Int) < a := by omega
      simp -implicitDefEqProofs +contextual (maxSteps := 4000000) [-Int.not_le, -Int.not_lt, -Nat.not_le, -Nat.not_lt, -UInt32.toNat_or, -UInt32.toNat_xor, -UInt32.toNat_and, -UInt8.toNat_or, -UInt8.toNat_xor, -UInt8.toNat_and, -UInt32.toNat_add, -UInt8.toNat_add, -List.map_take, -List.map_drop, ← List.map_take, ← List.map_drop, -List.length_take, -List.length_drop, -List.map_replicate, rep_pY0, rep_pB0, rep_pI0, e_ref07_Table.eq_1, Tryd.results28, h_ref01_Is, Ok_ref01_Is, h_ref07_counts, Ok_ref07_counts, h_ref07_nexts, Ok_ref07_nexts, h_ref07_apart, Ok_ref07_apart, hba, hba']
      refine ⟨by unfold fits; omega, fun _ => ⟨a + 1, ⟨by omega, fun a' b' h1 h2 => ?_⟩, by omega, by omega⟩⟩
      rcases (show a' < a ∨ a' = a by omega) with h | rfl
      · exact hp a' b' h h2
      · exact hq b' (by omega)
  have h6 : lstV t = true := pairsV_iff.2 fun a' b' h1 h2 => by rw [hp a' b' (by omega) h2]; rfl
  clear hp ha
  have e31 : colV t = false → validE t = 31 := fun h => by simp [validE, h1, h2, h3, h4, h5', h6, h]
  have hcl2 : ∀ c, (colL t c).length = t.next.length := fun c => by unfold colL; simp
  simp -implicitDefEqProofs +contextual (maxSteps := 4000000) [-Int.not_le, -Int.not_lt, -Nat.not_le, -Nat.not_lt, -UInt32.toNat_or, -UInt32.toNat_xor, -UInt32.toNat_and, -UInt8.toNat_or, -UInt8.toNat_xor, -UInt8.toNat_and, -UInt32.toNat_add, -UInt8.toNat_add, -List.map_take, -List.map_drop, ← List.map_take, ← List.map_drop, -List.length_take, -List.length_drop, -List.map_replicate, rep_pY0, rep_pB0, rep_pI0, e_ref07_Table.eq_1, Tryd.results28, h_ref01_Is, Ok_ref01_Is, h_ref07_counts, Ok_ref07_counts, h_ref07_nexts, Ok_ref07_nexts, h_ref07_apart, Ok_ref07_apart, hlt]
  refine loopu (fun a => a ≤ t.classes.toNat ∧ ∀ a' b', a' < a → b' < a' → (!(colL t a' == colL t b')) = true)
    (fun a => [(14, pI a)])
    (fun a => t.classes.toNat - a) ?_ (s := 0) rfl (by simp)
  clear hlt
  rintro a ⟨ha, hp⟩
  by_cases hlt : (a : Int) < t.classes
  case neg =>
    have h7 : colV t = true := pairsV_iff.2 fun a' b' h1 h2 => hp a' b' (by omega) h2
    have e : validE t = 0 := by simp [validE, h1, h2, h3, h4, h5', h6, h7]
    simp -implicitDefEqProofs +contextual (maxSteps := 4000000) [-Int.not_le, -Int.not_lt, -Nat.not_le, -Nat.not_lt, -UInt32.toNat_or, -UInt32.toNat_xor, -UInt32.toNat_and, -UInt8.toNat_or, -UInt8.toNat_xor, -UInt8.toNat_and, -UInt32.toNat_add, -UInt8.toNat_add, -List.map_take, -List.map_drop, ← List.map_take, ← List.map_drop, -List.length_take, -List.length_drop, -List.map_replicate, rep_pY0, rep_pB0, rep_pI0, e_ref07_Table.eq_1, Tryd.results28, h_ref01_Is, Ok_ref01_Is, h_ref07_counts, Ok_ref07_counts, h_ref07_nexts, Ok_ref07_nexts, h_ref07_apart, Ok_ref07_apart, hlt, e]
  simp -implicitDefEqProofs +contextual (maxSteps := 4000000) [-Int.not_le, -Int.not_lt, -Nat.not_le, -Nat.not_lt, -UInt32.toNat_or, -UInt32.toNat_xor, -UInt32.toNat_and, -UInt8.toNat_or, -UInt8.toNat_xor, -UInt8.toNat_and, -UInt32.toNat_add, -UInt8.toNat_add, -List.map_take, -List.map_drop, ← List.map_take, ← List.map_drop, -List.length_take, -List.length_drop, -List.map_replicate, rep_pY0, rep_pB0, rep_pI0, e_ref07_Table.eq_1, Tryd.results28, h_ref01_Is, Ok_ref01_Is, h_ref07_counts, Ok_ref07_counts, h_ref07_nexts, Ok_ref07_nexts, h_ref07_apart, Ok_ref07_apart, hlt]
  refine loopu (fun b => b ≤ a ∧ ∀ b', b' < b → (!(colL t a == colL t b')) = true)
    (fun b => [(15, pI b)])
    (fun b => a - b) ?_ (s := 0) rfl (by simp)
  rintro b ⟨hb, hq⟩
  by_cases hba : b < a
  case neg =>
    have hba' : ¬ (b : Int) < a := by omega
    simp -implicitDefEqProofs +contextual (maxSteps := 4000000) [-Int.not_le, -Int.not_lt, -Nat.not_le, -Nat.not_lt, -UInt32.toNat_or, -UInt32.toNat_xor, -UInt32.toNat_and, -UInt8.toNat_or, -UInt8.toNat_xor, -UInt8.toNat_and, -UInt32.toNat_add, -UInt8.toNat_add, -List.map_take, -List.map_drop, ← List.map_take, ← List.map_drop, -List.length_take, -List.length_drop, -List.map_replicate, rep_pY0, rep_pB0, rep_pI0, e_ref07_Table.eq_1, Tryd.results28, h_ref01_Is, Ok_ref01_Is, h_ref07_counts, Ok_ref07_counts, h_ref07_nexts, Ok_ref07_nexts, h_ref07_apart, Ok_ref07_apart, hba, hba']
    refine ⟨by unfold fits; omega, fun _ => ⟨a + 1, ⟨by omega, fun a' b' h1 h2 => ?_⟩, by omega, by omega⟩⟩
    rcases (show a' < a ∨ a' = a by omega) with h | rfl
    · simpa using hp a' b' h h2
    · simpa using hq b' (by omega)
  have hba' : (b : Int) < a := by omega
  simp -implicitDefEqProofs +contextual (maxSteps := 4000000) [-Int.not_le, -Int.not_lt, -Nat.not_le, -Nat.not_lt, -UInt32.toNat_or, -UInt32.toNat_xor, -UInt32.toNat_and, -UInt8.toNat_or, -UInt8.toNat_xor, -UInt8.toNat_and, -UInt32.toNat_add, -UInt8.toNat_add, -List.map_take, -List.map_drop, ← List.map_take, ← List.map_drop, -List.length_take, -List.length_drop, -List.map_replicate, rep_pY0, rep_pB0, rep_pI0, e_ref07_Table.eq_1, Tryd.results28, h_ref01_Is, Ok_ref01_Is, h_ref07_counts, Ok_ref07_counts, h_ref07_nexts, Ok_ref07_nexts, h_ref07_apart, Ok_ref07_apart, hba, hba']
  refine loopu (fun s => s ≤ t.next.length)
    (fun s => [(16, pB ((colL t a).take s == (colL t b).take s)), (17, pI s)])
    (fun s => t.next.length - s) ?_ (s := 0) rfl (by simp)
  rintro s hs
  by_cases hsn : (s : Int) < t.next.length
  · have hsn' : s < t.next.length := by omega
    have l1 : a < t.next[s].length := by have := hC.r _ (List.getElem_mem hsn'); omega
    have l2 : b < t.next[s].length := by have := hC.r _ (List.getElem_mem hsn'); omega
    have c1 : ∀ {c} (h : c < t.next[s].length), (colL t c)[s]'(by rw [hcl2]; exact hsn') = t.next[s][c] := fun {c} h => by simp [colL, h]
    have hts := take_eq_succ (l := colL t a) (m := colL t b) (s := s) (by rw [hcl2]; exact hsn') (by rw [hcl2]; exact hsn')
    rw [c1 l1, c1 l2] at hts
    cases hsame : ((colL t a).take s == (colL t b).take s)
    · simp -implicitDefEqProofs +contextual (maxSteps := 4000000) [-Int.not_le, -Int.not_lt, -Nat.not_le, -Nat.not_lt, -UInt32.toNat_or, -UInt32.toNat_xor, -UInt32.toNat_and, -UInt8.toNat_or, -UInt8.toNat_xor, -UInt8.toNat_and, -UInt32.toNat_add, -UInt8.toNat_add, -List.map_take, -List.map_drop, ← List.map_take, ← List.map_drop, -List.length_take, -List.length_drop, -List.map_replicate, rep_pY0, rep_pB0, rep_pI0, e_ref07_Table.eq_1, Tryd.results28, h_ref01_Is, Ok_ref01_Is, h_ref07_counts, Ok_ref07_counts, h_ref07_nexts, Ok_ref07_nexts, h_ref07_apart, Ok_ref07_apart, hsn, hsn', hsame]
      exact ⟨by decide +kernel, by unfold fits; omega, fun _ => ⟨s + 1, by omega, by omega, by rw [hsame] at hts; simpa using hts, by omega⟩⟩
    · simp -implicitDefEqProofs +contextual (maxSteps := 4000000) [-Int.not_le, -Int.not_lt, -Nat.not_le, -Nat.not_lt, -UInt32.toNat_or, -UInt32.toNat_xor, -UInt32.toNat_and, -UInt8.toNat_or, -UInt8.toNat_xor, -UInt8.toNat_and, -UInt32.toNat_add, -UInt8.toNat_add, -List.map_take, -List.map_drop, ← List.map_take, ← List.map_drop, -List.length_take, -List.length_drop, -List.map_replicate, rep_pY0, rep_pB0, rep_pI0, e_ref07_Table.eq_1, Tryd.results28, h_ref01_Is, Ok_ref01_Is, h_ref07_counts, Ok_ref07_counts, h_ref07_nexts, Ok_ref07_nexts, h_ref07_apart, Ok_ref07_apart, hsn, hsn', hsame, l1, l2]
      exact ⟨by decide +kernel, by unfold fits; omega, fun _ => ⟨s + 1, by omega, by omega, by rw [hsame] at hts; rw [hts]; simp, by omega⟩⟩
  have hall : ∀ c, (colL t c).take s = colL t c := fun c => List.take_of_length_le (by rw [hcl2]; omega)
  cases hsame : (colL t a == colL t b)
  · simp -implicitDefEqProofs +contextual (maxSteps := 4000000) [-Int.not_le, -Int.not_lt, -Nat.not_le, -Nat.not_lt, -UInt32.toNat_or, -UInt32.toNat_xor, -UInt32.toNat_and, -UInt8.toNat_or, -UInt8.toNat_xor, -UInt8.toNat_and, -UInt32.toNat_add, -UInt8.toNat_add, -List.map_take, -List.map_drop, ← List.map_take, ← List.map_drop, -List.length_take, -List.length_drop, -List.map_replicate, rep_pY0, rep_pB0, rep_pI0, e_ref07_Table.eq_1, Tryd.results28, h_ref01_Is, Ok_ref01_Is, h_ref07_counts, Ok_ref07_counts, h_ref07_nexts, Ok_ref07_nexts, h_ref07_apart, Ok_ref07_apart, hsn, hall, hsame]
    refine ⟨by unfold fits; omega, fun _ => ⟨b + 1, ⟨by omega, fun b' hb' => ?_⟩, by omega, by omega⟩⟩
    rcases (show b' < b ∨ b' = b by omega) with h | rfl
    · simpa using hq b' h
    · simpa using hsame
  · have e := e31 (pairsV_no (show a < t.classes.toNat by omega) hba (by rw [hsame]; rfl))
    simp -implicitDefEqProofs +contextual (maxSteps := 4000000) [-Int.not_le, -Int.not_lt, -Nat.not_le, -Nat.not_lt, -UInt32.toNat_or, -UInt32.toNat_xor, -UInt32.toNat_and, -UInt8.toNat_or, -UInt8.toNat_xor, -UInt8.toNat_and, -UInt32.toNat_add, -UInt8.toNat_add, -List.map_take, -List.map_drop, ← List.map_take, ← List.map_drop, -List.length_take, -List.length_drop, -List.map_replicate, rep_pY0, rep_pB0, rep_pI0, e_ref07_Table.eq_1, Tryd.results28, h_ref01_Is, Ok_ref01_Is, h_ref07_counts, Ok_ref07_counts, h_ref07_nexts, Ok_ref07_nexts, h_ref07_apart, Ok_ref07_apart, hsn, hall, hsame, e]

end Go.V
