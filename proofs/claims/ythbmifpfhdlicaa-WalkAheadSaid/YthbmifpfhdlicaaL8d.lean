/- A part of this seat's proofs: contracts of functions, or what these lean on. No condition. -/
import Derived.Test.YthbmifpfhdlicaaA28
import Derived.Test.YthbmifpfhdlicaaA3
import Derived.Test.YthbmifpfhdlicaaP15
import Derived.Test.YthbmifpfhdlicaaL8a
import Derived.Test.YthbmifpfhdlicaaLZ
import Derived.Test.YthbmifpfhdlicaaFZ
import Derived.Test.YthbmifpfhdlicaaP6
import Derived.Test.YthbmifpfhdlicaaW6
namespace Go.V
open Go.Proofs
set_option maxRecDepth 8000
set_option linter.unusedSimpArgs false
set_option linter.unusedVariables false
theorem brkIx_sub {t : Tab} {p : List Nat} : (brkIx t p).length ≤ p.length := by
  unfold brkIx; rw [List.length_map]
  exact Nat.le_trans (List.length_filter_le _ _) (by rw [List.length_range]; exact Nat.le_refl _)
theorem Ok_walk_BreaksF {t : Tab} {l : List Int} {K : PV × List PV → Prop} : Ok (frzG g_walk_Breaks [pT t, sI l]) K = ((wide t ∧ l.length < 2 ^ 40) ∧ K (.tup [sI (brkV t l), pB (staB t l)], [])) := by
  rw [Ok_frzG, Ok_walk_Breaks]
  simp [frz_pI]
def e_law08_WalkAhead : Tab × (List Int) × (List Int) × (List Int) → List PV := fun (t, l, m, n) => [pT t, sI l, .agg [sI m, sI n]]
noncomputable def g_law08_WalkAhead : List PV → Option (PV × List PV) := spec e_law08_WalkAhead (fun (t, l, m, n) => (t.bands.length < 2 ^ 63 ∧ t.next.length < 2 ^ 63 ∧ t.brk.length < 2 ^ 63) ∧ l.length < 2 ^ 47 ∧ m.length < 2 ^ 47 ∧ n.length < 2 ^ 47) fun (t, l, m, n) => (pB true, [])
theorem e_law08_WalkAhead_inj (a b : Tab × (List Int) × (List Int) × (List Int)) (h : e_law08_WalkAhead a = e_law08_WalkAhead b) : a = b := by
  obtain ⟨⟨t1a, t1b, t1c, t1d⟩, l1, m1, n1⟩ := a; obtain ⟨⟨t2a, t2b, t2c, t2d⟩, l2, m2, n2⟩ := b; simp [e_law08_WalkAhead, map_pI_inj, map_pB_inj, map_pY_inj, map_pBand_inj, map_sI_inj, Int.natCast_inj, UInt8.toNat_inj, UInt32.toNat_inj] at h; first | exact h | (simp [h]; done) | exact UInt32.toNat_inj.1 (by omega) | exact UInt8.toNat_inj.1 (by omega) | (simp only [Prod.mk.injEq, ← UInt8.toNat_inj, ← UInt32.toNat_inj] at *; omega) | grind
theorem Ok_law08_WalkAhead {t : Tab} {l : List Int} {m : List Int} {n : List Int} {K : PV × List PV → Prop} : Ok (g_law08_WalkAhead [pT t, sI l, .agg [sI m, sI n]]) K = (((t.bands.length < 2 ^ 63 ∧ t.next.length < 2 ^ 63 ∧ t.brk.length < 2 ^ 63) ∧ l.length < 2 ^ 47 ∧ m.length < 2 ^ 47 ∧ n.length < 2 ^ 47) ∧ K (pB true, [])) := Ok_spec e_law08_WalkAhead_inj (t, l, m, n)
set_option maxHeartbeats 8000000 in
theorem impl_law08_WalkAhead {tbl : Tbl} {G : Nat → Option (List PV)} (hT : Tb tbl G) (h_ref07_Table : tbl 36 = g_ref07_Table) (h_walk_State : tbl 43 = g_walk_State) (h_law08_upto : tbl 44 = g_law08_upto) (h_keep_Ints : tbl 45 = g_keep_Ints) (h_w : tbl 41 = gTrue) (h_b : tbl 42 = frzG g_walk_Breaks) : Impl Try.prog G 15 (g_law08_WalkAhead) := by
  refine impl_p (E := En tbl G 120 k_law08_WalkAhead []) (c := _) hT mixed Try.func15 rfl rfl (fun a => by simp [e_law08_WalkAhead, pinned.eq_1, pinned.eq_2, PV.isMut.eq_1, PV.isMut.eq_2]) ?_
  rintro ⟨t, l, m, n⟩ hok
  refine ⟨by simp [e_law08_WalkAhead], ?_⟩
  replace hok : (t.bands.length < 2 ^ 63 ∧ t.next.length < 2 ^ 63 ∧ t.brk.length < 2 ^ 63) ∧ l.length < 2 ^ 47 ∧ m.length < 2 ^ 47 ∧ n.length < 2 ^ 47 := hok
  have hw : gTrue [] = some (pB true, []) := rfl
  obtain ⟨ht, hl, hm, hn⟩ := hok
  have hwd : wide t := ht
  by_cases hV : validE t = 0
  case neg =>
    simp -implicitDefEqProofs +contextual (maxSteps := 4000000) [-Int.not_le, -Int.not_lt, -Nat.not_le, -Nat.not_lt, -UInt32.toNat_or, -UInt32.toNat_xor, -UInt32.toNat_and, -UInt8.toNat_or, -UInt8.toNat_xor, -UInt8.toNat_and, -UInt32.toNat_add, -UInt8.toNat_add, -List.map_take, -List.map_drop, ← List.map_take, ← List.map_drop, -List.length_take, -List.length_drop, -List.map_replicate, rep_pY0, rep_pB0, rep_pI0, e_law08_WalkAhead.eq_1, Try.results15, h_ref07_Table, Ok_ref07_Table, h_walk_State, Ok_walk_State, h_law08_upto, Ok_law08_upto, h_keep_Ints, Ok_keep_Ints, h_b, Ok_walk_BreaksF, h_w, hw, hwd, hV]
    (repeat' (first | exact (show drawD _ _ = true by decide +kernel) | exact (show _ = List.range' _ _ from rfl) | with_reducible refine and_imp_self' ?_ ?_ | with_reducible refine And.intro ?_ ?_ | with_reducible refine @Exists.intro Nat _ (i + 1) ?_ | with_reducible refine Exists.intro (show (_ : Nat) < _ by omega) ?_ | intro _)) <;> (try (first | omega | (unfold fits; omega) | assumption | with_reducible rfl | (simp only [inR_iff, inR_not, fits_iff] at *; omega)))
  have f1 : fits ((l.length : Int) + m.length) := by unfold fits; omega
  have f2 : fits ((l.length : Int) + m.length + n.length) := by unfold fits; omega
  by_cases hB : 500 < (l.length : Int) + m.length + n.length
  · simp -implicitDefEqProofs +contextual (maxSteps := 4000000) [-Int.not_le, -Int.not_lt, -Nat.not_le, -Nat.not_lt, -UInt32.toNat_or, -UInt32.toNat_xor, -UInt32.toNat_and, -UInt8.toNat_or, -UInt8.toNat_xor, -UInt8.toNat_and, -UInt32.toNat_add, -UInt8.toNat_add, -List.map_take, -List.map_drop, ← List.map_take, ← List.map_drop, -List.length_take, -List.length_drop, -List.map_replicate, rep_pY0, rep_pB0, rep_pI0, e_law08_WalkAhead.eq_1, Try.results15, h_ref07_Table, Ok_ref07_Table, h_walk_State, Ok_walk_State, h_law08_upto, Ok_law08_upto, h_keep_Ints, Ok_keep_Ints, h_b, Ok_walk_BreaksF, h_w, hw, hwd, hV, f1, f2, hB]
    (repeat' (first | exact (show drawD _ _ = true by decide +kernel) | exact (show _ = List.range' _ _ from rfl) | with_reducible refine and_imp_self' ?_ ?_ | with_reducible refine And.intro ?_ ?_ | with_reducible refine @Exists.intro Nat _ (i + 1) ?_ | with_reducible refine Exists.intro (show (_ : Nat) < _ by omega) ?_ | intro _)) <;> (try (first | omega | (unfold fits; omega) | assumption | with_reducible rfl | (simp only [inR_iff, inR_not, fits_iff] at *; omega)))
  have hv := validE_iff.1 hV
  have h5 := hv.cnt.n
  have hbk := hv.cnt.k
  have k1 : (l ++ m).length < 2 ^ 40 := by rw [List.length_append]; omega
  have k2 : (l ++ n).length < 2 ^ 40 := by rw [List.length_append]; omega
  have k3 : l.length < 2 ^ 62 := by omega
  have sv : ∀ l, stsV t l = stsL t 0 l := fun l => by unfold stsV; rw [if_pos hV]
  have g1 : l.length * 9 ≤ 70368744177664 := by omega
  have g2 : (l.length + m.length) * 9 ≤ 70368744177664 := by omega
  have g3 : (l.length + n.length) * 9 ≤ 70368744177664 := by omega
  cases hx : staB t (l ++ m)
  · simp -implicitDefEqProofs +contextual (maxSteps := 4000000) [-Int.not_le, -Int.not_lt, -Nat.not_le, -Nat.not_lt, -UInt32.toNat_or, -UInt32.toNat_xor, -UInt32.toNat_and, -UInt8.toNat_or, -UInt8.toNat_xor, -UInt8.toNat_and, -UInt32.toNat_add, -UInt8.toNat_add, -List.map_take, -List.map_drop, ← List.map_take, ← List.map_drop, -List.length_take, -List.length_drop, -List.map_replicate, rep_pY0, rep_pB0, rep_pI0, e_law08_WalkAhead.eq_1, Try.results15, h_ref07_Table, Ok_ref07_Table, h_walk_State, Ok_walk_State, h_law08_upto, Ok_law08_upto, h_keep_Ints, Ok_keep_Ints, h_b, Ok_walk_BreaksF, h_w, hw, hwd, hV, f1, f2, hB, k1, k2, k3, g1, g2, g3, hx, -List.map_append, ← List.map_append]
    (repeat' (first | exact (show drawD _ _ = true by decide +kernel) | exact (show _ = List.range' _ _ from rfl) | with_reducible refine and_imp_self' ?_ ?_ | with_reducible refine And.intro ?_ ?_ | with_reducible refine @Exists.intro Nat _ (i + 1) ?_ | with_reducible refine Exists.intro (show (_ : Nat) < _ by omega) ?_ | intro _)) <;> (try (first | omega | (unfold fits; omega) | assumption | with_reducible rfl | (simp only [inR_iff, inR_not, fits_iff] at *; omega)))
    all_goals decide +kernel
  cases hy : staB t (l ++ n)
  · simp -implicitDefEqProofs +contextual (maxSteps := 4000000) [-Int.not_le, -Int.not_lt, -Nat.not_le, -Nat.not_lt, -UInt32.toNat_or, -UInt32.toNat_xor, -UInt32.toNat_and, -UInt8.toNat_or, -UInt8.toNat_xor, -UInt8.toNat_and, -UInt32.toNat_add, -UInt8.toNat_add, -List.map_take, -List.map_drop, ← List.map_take, ← List.map_drop, -List.length_take, -List.length_drop, -List.map_replicate, rep_pY0, rep_pB0, rep_pI0, e_law08_WalkAhead.eq_1, Try.results15, h_ref07_Table, Ok_ref07_Table, h_walk_State, Ok_walk_State, h_law08_upto, Ok_law08_upto, h_keep_Ints, Ok_keep_Ints, h_b, Ok_walk_BreaksF, h_w, hw, hwd, hV, f1, f2, hB, k1, k2, k3, g1, g2, g3, hx, hy, -List.map_append, ← List.map_append]
    (repeat' (first | exact (show drawD _ _ = true by decide +kernel) | exact (show _ = List.range' _ _ from rfl) | with_reducible refine and_imp_self' ?_ ?_ | with_reducible refine And.intro ?_ ?_ | with_reducible refine @Exists.intro Nat _ (i + 1) ?_ | with_reducible refine Exists.intro (show (_ : Nat) < _ by omega) ?_ | intro _)) <;> (try (first | omega | (unfold fits; omega) | assumption | with_reducible rfl | (simp only [inR_iff, inR_not, fits_iff] at *; omega)))
    all_goals decide +kernel
  obtain ⟨Q1, hQ1⟩ := Option.isSome_iff_exists.1 (show (stsV t (l ++ m)).isSome = true from hx)
  obtain ⟨Q2, hQ2⟩ := Option.isSome_iff_exists.1 (show (stsV t (l ++ n)).isSome = true from hy)
  have hQ1' := hQ1
  have hQ2' := hQ2
  rw [sv] at hQ1' hQ2'
  obtain ⟨p, u, q1, hp1, rfl, hpl⟩ := stsL_pre hQ1'
  obtain ⟨p', u', q2, hp2, rfl, _⟩ := stsL_pre hQ2'
  rw [hp1] at hp2
  obtain ⟨rfl, hu⟩ := List.append_inj' (Option.some.inj hp2) rfl
  obtain rfl : u = u' := by simpa using hu
  have hu2 : u < t.next.length := hv.sts (by omega) hp1 u (by simp)
  have hub : u < t.brk.length := by omega
  have hz : staB t l = true := by unfold staB; rw [sv, hp1]; rfl
  have hs : staV t l = (u : Int) := by unfold staV; rw [sv, hp1]; simp
  have hl1 : ((p ++ [u]).length : Int) = l.length + 1 := by rw [List.length_append, hpl]; simp
  have b1 : brkV t (l ++ m) = brkIx t (p ++ [u] ++ q1) := by unfold brkV; rw [hQ1]; rfl
  have b2 : brkV t (l ++ n) = brkIx t (p ++ [u] ++ q2) := by unfold brkV; rw [hQ2]; rfl
  have b3 := upto_brk (t := t) (q := q1) hl1
  have b4 := upto_brk (t := t) (q := q2) hl1
  have b5 := brkIx_snoc (t := t) (p := p) (s := u)
  rw [hpl, bk_eq hub] at b5
  have hln1 : (brkIx t (p ++ [u] ++ q1)).length < 2 ^ 40 := by rw [← b1]; have := brkV_len (t := t) (l := l ++ m); rw [List.length_append] at this; omega
  have hln2 : (brkIx t (p ++ [u] ++ q2)).length < 2 ^ 40 := by rw [← b2]; have := brkV_len (t := t) (l := l ++ n); rw [List.length_append] at this; omega
  have hnu : ¬ (u : Int) < 0 := by omega
  have hnu2 : ¬ (t.brk.length : Int) ≤ u := by omega
  have hlt := brkIx_lt (t := t) (p := p)
  have hBs : (brkIx t (p ++ [u])).length < 2 ^ 62 := by have := brkIx_sub (t := t) (p := p ++ [u]); rw [List.length_append, hpl] at this; simp at this; omega
  generalize hA1 : brkIx t (p ++ [u] ++ q1) = A1 at *
  generalize hA2 : brkIx t (p ++ [u] ++ q2) = A2 at *
  generalize hBe : brkIx t (p ++ [u]) = B at *
  have tnB : ((B.length : Int) - 1).toNat = B.length - 1 := by omega
  cases hb : t.brk[u]
  · rw [hb, if_neg (by decide), List.append_nil] at b5
    by_cases hB0 : (0 : Int) < B.length
    · have hB1 : B.length - 1 < B.length := by omega
      have hBg : ¬ B[B.length - 1] = (l.length : Int) := fun e => by
        have hm : (l.length : Int) ∈ B := by rw [← e]; exact List.getElem_mem hB1
        rw [b5] at hm
        have := hlt _ hm
        omega
      simp -implicitDefEqProofs +contextual (maxSteps := 4000000) [-Int.not_le, -Int.not_lt, -Nat.not_le, -Nat.not_lt, -UInt32.toNat_or, -UInt32.toNat_xor, -UInt32.toNat_and, -UInt8.toNat_or, -UInt8.toNat_xor, -UInt8.toNat_and, -UInt32.toNat_add, -UInt8.toNat_add, -List.map_take, -List.map_drop, ← List.map_take, ← List.map_drop, -List.length_take, -List.length_drop, -List.map_replicate, rep_pY0, rep_pB0, rep_pI0, e_law08_WalkAhead.eq_1, Try.results15, h_ref07_Table, Ok_ref07_Table, h_walk_State, Ok_walk_State, h_law08_upto, Ok_law08_upto, h_keep_Ints, Ok_keep_Ints, h_b, Ok_walk_BreaksF, h_w, hw, hwd, hV, f1, f2, hB, k1, k2, k3, g1, g2, g3, hx, hy, hz, hs, b1, b2, b3, b4, hln1, hln2, hnu, hnu2, hub, hb, hB0, hB1, hBg, tnB, hBs, -List.map_append, ← List.map_append]
      refine ⟨by decide +kernel, by omega, by decide +kernel, by omega, by decide +kernel, fun _ => ⟨by unfold fits; omega, fun _ => ⟨by omega, by omega⟩⟩⟩
    · simp -implicitDefEqProofs +contextual (maxSteps := 4000000) [-Int.not_le, -Int.not_lt, -Nat.not_le, -Nat.not_lt, -UInt32.toNat_or, -UInt32.toNat_xor, -UInt32.toNat_and, -UInt8.toNat_or, -UInt8.toNat_xor, -UInt8.toNat_and, -UInt32.toNat_add, -UInt8.toNat_add, -List.map_take, -List.map_drop, ← List.map_take, ← List.map_drop, -List.length_take, -List.length_drop, -List.map_replicate, rep_pY0, rep_pB0, rep_pI0, e_law08_WalkAhead.eq_1, Try.results15, h_ref07_Table, Ok_ref07_Table, h_walk_State, Ok_walk_State, h_law08_upto, Ok_law08_upto, h_keep_Ints, Ok_keep_Ints, h_b, Ok_walk_BreaksF, h_w, hw, hwd, hV, f1, f2, hB, k1, k2, k3, g1, g2, g3, hx, hy, hz, hs, b1, b2, b3, b4, hln1, hln2, hnu, hnu2, hub, hb, hB0, hBs, -List.map_append, ← List.map_append]
      exact ⟨by decide +kernel, by omega, by decide +kernel, by omega, by decide +kernel, fun _ => ⟨by unfold fits; omega, fun _ => ⟨by omega, by omega⟩⟩⟩
  · rw [hb, if_pos rfl] at b5
    have hBl : B.length = (brkIx t p).length + 1 := by rw [b5]; simp
    have hB0 : (0 : Int) < B.length := by omega
    have hB1 : B.length - 1 < B.length := by omega
    have hBg : B[B.length - 1] = (l.length : Int) := by
      have : B[B.length - 1]? = some (l.length : Int) := by rw [hBl, Nat.add_sub_cancel, b5, List.getElem?_append_right (Nat.le_refl _)]; simp
      rw [List.getElem?_eq_getElem hB1] at this
      exact Option.some.inj this
    simp -implicitDefEqProofs +contextual (maxSteps := 4000000) [-Int.not_le, -Int.not_lt, -Nat.not_le, -Nat.not_lt, -UInt32.toNat_or, -UInt32.toNat_xor, -UInt32.toNat_and, -UInt8.toNat_or, -UInt8.toNat_xor, -UInt8.toNat_and, -UInt32.toNat_add, -UInt8.toNat_add, -List.map_take, -List.map_drop, ← List.map_take, ← List.map_drop, -List.length_take, -List.length_drop, -List.map_replicate, rep_pY0, rep_pB0, rep_pI0, e_law08_WalkAhead.eq_1, Try.results15, h_ref07_Table, Ok_ref07_Table, h_walk_State, Ok_walk_State, h_law08_upto, Ok_law08_upto, h_keep_Ints, Ok_keep_Ints, h_b, Ok_walk_BreaksF, h_w, hw, hwd, hV, f1, f2, hB, k1, k2, k3, g1, g2, g3, hx, hy, hz, hs, b1, b2, b3, b4, hln1, hln2, hnu, hnu2, hub, hb, hB0, hB1, hBg, tnB, hBs, -List.map_append, ← List.map_append]
    exact ⟨by decide +kernel, by omega, by decide +kernel, by omega, by decide +kernel, fun _ => ⟨by unfold fits; omega, fun _ => ⟨by omega, by omega⟩⟩, by omega⟩
theorem law_law08_WalkAhead_eq (t : Tab) (w : wfT t) (l : List Int) (wl : l.length ≤ maxLen ∧ ∀ x ∈ l, fits x) (zl : l.length * 8 ≤ reachBytes) (p : List Int × List Int) (wp : (p.1.length ≤ maxLen ∧ ∀ x ∈ p.1, fits x) ∧ (p.2.length ≤ maxLen ∧ ∀ x ∈ p.2, fits x)) (zp : p.1.length * 8 ≤ reachBytes ∧ p.2.length * 8 ≤ reachBytes) : g_law08_WalkAhead [pT t, sI l, .agg [sI p.1, sI p.2]] = some (pB true, []) :=
  Ok_eq (by
    rw [Ok_law08_WalkAhead]
    have h := reachBytes_lt
    exact ⟨⟨wfT_len w, by omega, by omega, by omega⟩, rfl⟩)

end Go.V
