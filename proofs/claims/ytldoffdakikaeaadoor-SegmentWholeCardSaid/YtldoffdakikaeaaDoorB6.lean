/- A part of the proof of SegmentWhole: contracts of functions, or what these lean on. No condition. -/
import Derived.Test.YtldoffdakikaeaaDoorB5
import Derived.Test.YtldoffdakikaeaaDoorPU5
namespace Go.V
open Go.Proofs
set_option maxRecDepth 8000
set_option linter.unusedSimpArgs false
set_option linter.unusedVariables false
abbrev sS (l : List (List UInt8)) : PV := .sl false 1 (l.map pS)
abbrev tS (l : List (List UInt8)) : PV := .sl true 1 (l.map pS)
theorem pS_inj (a b : List UInt8) (h : pS a = pS b) : a = b := by
  simp only [PV.prim.injEq, Value.string.injEq] at h; exact str_inj.1 h
theorem map_pS_inj {l m : List (List UInt8)} : (l.map pS = m.map pS) = (l = m) := map_inj pS_inj
/-- what stands between places, one behind the other -/
def cutsU (s : List UInt8) : Nat → List Int → List (List UInt8)
  | _, [] => []
  | f, x :: l => if (f : Int) = x then cutsU s f l else (s.drop f).take (x.toNat - f) :: cutsU s x.toNat l
noncomputable def cutU (t : Tab) (s : List UInt8) : List (List UInt8) := if okU t s = true then cutsU s 0 (ofU t s ++ [(s.length : Int)]) else []
theorem ofU_pair {t : Tab} {s : List UInt8} : List.Pairwise (· < ·) (ofU t s) := by
  unfold ofU
  rw [List.pairwise_map]
  have hB := brkV_pair (t := t) (l := scU s)
  have hr := brkV_rng (t := t) (l := scU s)
  rw [scU_len] at hr
  refine List.Pairwise.imp_of_mem (fun ha hb hab => ?_) hB
  have h1 := hr _ ha
  have h2 := hr _ hb
  exact pair_get offU_pair (by omega) (by rw [offU_len]; omega)
theorem ofU_mem {t : Tab} {s : List UInt8} : ∀ x ∈ ofU t s, 0 ≤ x ∧ x ≤ s.length := by
  intro x hx
  obtain ⟨i, hi, rfl⟩ := List.mem_map.1 hx
  have hr := brkV_rng i hi
  rw [scU_len] at hr
  have hl : i.toNat < (offU s).length := by rw [offU_len]; omega
  rw [List.getD_eq_getElem?_getD, List.getElem?_eq_getElem hl, Option.getD_some]
  exact offU_mem _ (List.getElem_mem hl)
theorem placesU_pair {t : Tab} {s : List UInt8} : List.Pairwise (· ≤ ·) (ofU t s ++ [(s.length : Int)]) := by
  rw [List.pairwise_append]
  refine ⟨List.Pairwise.imp (fun h => Int.le_of_lt h) ofU_pair, List.pairwise_singleton _ _, ?_⟩
  intro a ha b hb
  rw [List.mem_singleton] at hb
  have := ofU_mem a ha; omega
theorem placesU_mem {t : Tab} {s : List UInt8} : ∀ x ∈ ofU t s ++ [(s.length : Int)], 0 ≤ x ∧ x ≤ s.length := by
  intro x hx
  rcases List.mem_append.1 hx with h | h
  · exact ofU_mem x h
  · rw [List.mem_singleton] at h; omega
theorem app_pS1 {l : List (List UInt8)} {a : List UInt8} : l.map pS ++ [pS a] = (l ++ [a]).map pS := by simp
def e_segment_Cut : Tab × (List UInt8) → List PV := fun (t, s) => [pT t, pS s]
noncomputable def g_segment_Cut : List PV → Option (PV × List PV) := spec e_segment_Cut (fun (t, s) => wide t ∧ s.length < 2 ^ 38) fun (t, s) => (.tup [tS (cutU t s), pB (okU t s)], [])
theorem e_segment_Cut_inj (a b : Tab × (List UInt8)) (h : e_segment_Cut a = e_segment_Cut b) : a = b := by
  obtain ⟨⟨t1a, t1b, t1c, t1d⟩, s1⟩ := a; obtain ⟨⟨t2a, t2b, t2c, t2d⟩, s2⟩ := b; simp [e_segment_Cut, map_pI_inj, map_pB_inj, map_pY_inj, map_pBand_inj, map_sI_inj, str_inj, Int.natCast_inj, UInt8.toNat_inj, UInt32.toNat_inj] at h; first | exact h | (simp [h]; done) | exact UInt32.toNat_inj.1 (by omega) | exact UInt8.toNat_inj.1 (by omega) | (simp only [Prod.mk.injEq, ← UInt8.toNat_inj, ← UInt32.toNat_inj] at *; omega) | grind
theorem Ok_segment_Cut {t : Tab} {s : List UInt8} {K : PV × List PV → Prop} : Ok (g_segment_Cut [pT t, pS s]) K = ((wide t ∧ s.length < 2 ^ 38) ∧ K (.tup [tS (cutU t s), pB (okU t s)], [])) := Ok_spec e_segment_Cut_inj (t, s)
set_option maxHeartbeats 1000000 in
theorem impl_segment_Cut {tbl : Tbl} {G : Nat → Option (List PV)} (hT : Tb tbl G) (h_segment_Of : tbl 30 = g_segment_Of) : Impl Tryd.prog G 33 (g_segment_Cut) := by
  refine impl_p (E := En tbl G 51 k_segment_Cut []) (c := _) hT mixed Tryd.func33 rfl rfl (fun a => by simp [e_segment_Cut, pinned.eq_1, pinned.eq_2, PV.isMut.eq_1, PV.isMut.eq_2]) ?_
  rintro ⟨t, s⟩ hok
  refine ⟨by simp [e_segment_Cut], ?_⟩
  replace hok : wide t ∧ s.length < 2 ^ 38 := hok
  obtain ⟨hw, hs⟩ := hok
  cases ho : okU t s with
  | false =>
    have hz : cutU t s = [] := by unfold cutU; rw [if_neg (by simp [ho])]
    simp -implicitDefEqProofs +contextual (maxSteps := 4000000) [-Int.not_le, -Int.not_lt, -Nat.not_le, -Nat.not_lt, -UInt32.toNat_or, -UInt32.toNat_xor, -UInt32.toNat_and, -UInt8.toNat_or, -UInt8.toNat_xor, -UInt8.toNat_and, -UInt32.toNat_add, -UInt8.toNat_add, -List.map_take, -List.map_drop, ← List.map_take, ← List.map_drop, -List.length_take, -List.length_drop, -List.map_replicate, rep_pY0, rep_pB0, rep_pI0, e_segment_Cut.eq_1, Tryd.results33, h_segment_Of, Ok_segment_Of, hw, hs, ho, hz]
  | true =>
  have hz : cutU t s = cutsU s 0 (ofU t s ++ [(s.length : Int)]) := by unfold cutU; rw [if_pos ho]
  have hbl : (ofU t s).length ≤ s.length + 1 := by
    unfold ofU; rw [List.length_map]
    have := brkV_len (t := t) (l := scU s)
    rw [scU_len] at this
    have := @pcs_len s
    omega
  have hbt : ((ofU t s).length + 1) * 9 ≤ 70368744177664 := by omega
  have hLp := placesU_pair (t := t) (s := s)
  have hLm := placesU_mem (t := t) (s := s)
  have hLe : List.map pI (ofU t s) ++ [pI (s.length : Int)] = List.map pI (ofU t s ++ [(s.length : Int)]) := by rw [List.map_append]; rfl
  have hLl : (ofU t s ++ [(s.length : Int)]).length = (ofU t s).length + 1 := by rw [List.length_append]; rfl
  have hLc : ((ofU t s).length : Int) + 1 = ((ofU t s ++ [(s.length : Int)]).length : Int) := by rw [hLl]; rfl
  simp -implicitDefEqProofs +contextual (maxSteps := 4000000) [-Int.not_le, -Int.not_lt, -Nat.not_le, -Nat.not_lt, -UInt32.toNat_or, -UInt32.toNat_xor, -UInt32.toNat_and, -UInt8.toNat_or, -UInt8.toNat_xor, -UInt8.toNat_and, -UInt32.toNat_add, -UInt8.toNat_add, -List.map_take, -List.map_drop, ← List.map_take, ← List.map_drop, -List.length_take, -List.length_drop, -List.map_replicate, rep_pY0, rep_pB0, rep_pI0, e_segment_Cut.eq_1, Tryd.results33, h_segment_Of, Ok_segment_Of, hw, hs, ho, hbt]
  rw [hLe, hLc, hz]
  generalize ofU t s ++ [(s.length : Int)] = L at hLp hLm hLl
  have hL2 : L.length ≤ s.length + 2 := by omega
  refine loopu (fun (x : Nat × Nat × List (List UInt8)) => x.1 ≤ L.length ∧ x.2.2.length ≤ x.1 ∧ (∀ y ∈ L.drop x.1, (x.2.1 : Int) ≤ y) ∧ x.2.2 ++ cutsU s x.2.1 (L.drop x.1) = cutsU s 0 L)
    (fun x => [(8, tS x.2.2), (9, pI x.2.1), (27, pI x.1)]) (fun x => L.length - x.1) ?_ (s := (0, 0, [])) rfl ⟨by omega, by simp, fun y hy => (hLm y hy).1, by simp⟩
  rintro ⟨i, f, out⟩ ⟨h1, h2, h3, h4⟩
  simp only at h1 h2 h3 h4
  by_cases c : i = L.length
  · have c' : (i : Int) = L.length := by omega
    rw [List.drop_of_length_le (by omega), cutsU, List.append_nil] at h4
    simp -implicitDefEqProofs +contextual (maxSteps := 4000000) [-Int.not_le, -Int.not_lt, -Nat.not_le, -Nat.not_lt, -UInt32.toNat_or, -UInt32.toNat_xor, -UInt32.toNat_and, -UInt8.toNat_or, -UInt8.toNat_xor, -UInt8.toNat_and, -UInt32.toNat_add, -UInt8.toNat_add, -List.map_take, -List.map_drop, ← List.map_take, ← List.map_drop, -List.length_take, -List.length_drop, -List.map_replicate, rep_pY0, rep_pB0, rep_pI0, e_segment_Cut.eq_1, Tryd.results33, h_segment_Of, Ok_segment_Of, c', h4, ho]
  have ci : i < L.length := by omega
  have c' : (i : Int) < L.length := by omega
  have hd := List.drop_eq_getElem_cons ci
  rw [hd] at h3 h4
  have hx := hLm L[i] (List.getElem_mem ci)
  have hfx := h3 L[i] List.mem_cons_self
  have hnx : ∀ y ∈ L.drop (i + 1), L[i] ≤ y := by
    have := hLp.drop (i := i)
    rw [hd] at this
    exact (List.pairwise_cons.1 this).1
  have hb2 : (out.length + 1) * 17 ≤ 70368744177664 := by omega
  simp only [cutsU] at h4
  have f1 : fits ((i : Int) + 1) := by unfold fits; omega
  have tm : ((L[i].toNat : Nat) : Int) = L[i] := by omega
  simp -implicitDefEqProofs +contextual (maxSteps := 4000000) [-Int.not_le, -Int.not_lt, -Nat.not_le, -Nat.not_lt, -UInt32.toNat_or, -UInt32.toNat_xor, -UInt32.toNat_and, -UInt8.toNat_or, -UInt8.toNat_xor, -UInt8.toNat_and, -UInt32.toNat_add, -UInt8.toNat_add, -List.map_take, -List.map_drop, ← List.map_take, ← List.map_drop, -List.length_take, -List.length_drop, -List.map_replicate, rep_pY0, rep_pB0, rep_pI0, e_segment_Cut.eq_1, Tryd.results33, h_segment_Of, Ok_segment_Of, ci, c', hb2, -List.map_append, app_pS1]
  refine ⟨fun d => ⟨⟨hfx, hx.2⟩, fun _ _ => ⟨f1, fun _ => ⟨i + 1, L[i].toNat, out ++ [List.take (L[i].toNat - f) (List.drop f s)], ⟨by omega, by rw [List.length_append]; simp; omega, fun y hy => by rw [tm]; exact hnx y hy, ?_⟩, by omega, rfl, tm.symm, by omega⟩⟩⟩,
    fun d => ⟨f1, fun _ => ⟨i + 1, f, out, ⟨by omega, by omega, fun y hy => by rw [d]; exact hnx y hy, ?_⟩, by omega, rfl, d.symm, by omega⟩⟩⟩
  · rw [if_neg d] at h4; rw [List.append_assoc]; exact h4
  · rw [if_pos d] at h4; exact h4

end Go.V
