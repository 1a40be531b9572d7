/- A part of the proof of SegmentWhole: contracts of functions, or what these lean on. No condition. -/
import Derived.Test.YtldoffdakikaeaaDoorA26
namespace Go.V
open Go.Proofs
set_option maxRecDepth 8000
set_option linter.unusedSimpArgs false
set_option linter.unusedVariables false
theorem stsL_all {t : Tab} {l : List Int} {i s : Nat} {p : List Nat} (h : ¬ i < l.length) (hp : stsL t s (l.take i) = some p) : stsL t s l = some p := by
  rw [List.take_of_length_le (by omega)] at hp; exact hp
def e_walker_step : Tab × (List (Int × Int)) × Nat × Int → List PV := fun (t, M, s, v) => [wP t M s, pI v]
noncomputable def g_walker_step : List PV → Option (PV × List PV) := spec e_walker_step (fun (t, M, s, v) => Kn t.bands M ∧ Valid t ∧ s < t.next.length) fun (t, M, s, v) => (pB (classB t.bands v), [wP t (Mn t.bands M v) (if classB t.bands v = true then (nx t s (classV t.bands v).toNat : Nat) else s : Int)])
theorem e_walker_step_inj (a b : Tab × (List (Int × Int)) × Nat × Int) (h : e_walker_step a = e_walker_step b) : a = b := by
  obtain ⟨⟨t1a, t1b, t1c, t1d⟩, M1, s1, v1⟩ := a; obtain ⟨⟨t2a, t2b, t2c, t2d⟩, M2, s2, v2⟩ := b; simp [e_walker_step, map_pI_inj, map_pB_inj, map_pY_inj, map_pBand_inj, map_sI_inj, str_inj, Int.natCast_inj, UInt8.toNat_inj, UInt32.toNat_inj] at h; first | exact h | (simp [h]; done) | exact UInt32.toNat_inj.1 (by omega) | exact UInt8.toNat_inj.1 (by omega) | (simp only [Prod.mk.injEq, ← UInt8.toNat_inj, ← UInt32.toNat_inj] at *; omega) | grind
theorem Ok_walker_step {t : Tab} {M : List (Int × Int)} {s : Nat} {v : Int} {K : PV × List PV → Prop} : Ok (g_walker_step [wP t M s, pI v]) K = ((Kn t.bands M ∧ Valid t ∧ s < t.next.length) ∧ K (pB (classB t.bands v), [wP t (Mn t.bands M v) (if classB t.bands v = true then (nx t s (classV t.bands v).toNat : Nat) else s : Int)])) := Ok_spec e_walker_step_inj (t, M, s, v)
set_option maxHeartbeats 1000000 in
theorem impl_walker_step {tbl : Tbl} {G : Nat → Option (List PV)} (hT : Tb tbl G) (h_walker_class : tbl 67 = g_walker_class) : Impl Tryd.prog G 58 (g_walker_step) := by
  refine impl_p (E := En tbl G 32 k_walker_step [0]) (c := _) hT mixed Tryd.func58 rfl rfl (fun a => by simp [e_walker_step, pinned.eq_1, pinned.eq_2, PV.isMut.eq_1, PV.isMut.eq_2]) ?_
  rintro ⟨t, M, s, v⟩ hok
  refine ⟨by simp [e_walker_step], ?_⟩
  replace hok : Kn t.bands M ∧ Valid t ∧ s < t.next.length := hok
  obtain ⟨hk, hv, hs⟩ := hok
  have hb : t.bands.length < 2 ^ 62 := by have := hv.cnt.b; omega
  cases hc : classB t.bands v
  · simp -implicitDefEqProofs +contextual (maxSteps := 4000000) [-Int.not_le, -Int.not_lt, -Nat.not_le, -Nat.not_lt, -UInt32.toNat_or, -UInt32.toNat_xor, -UInt32.toNat_and, -UInt8.toNat_or, -UInt8.toNat_xor, -UInt8.toNat_and, -UInt32.toNat_add, -UInt8.toNat_add, -List.map_take, -List.map_drop, ← List.map_take, ← List.map_drop, -List.length_take, -List.length_drop, -List.map_replicate, rep_pY0, rep_pB0, rep_pI0, e_walker_step.eq_1, Tryd.results58, h_walker_class, Ok_walker_class, hk, hb, hc]
  · have hcl := hv.class hc
    have hr := hv.cnt.r _ (List.getElem_mem hs)
    have h2 : (classV t.bands v).toNat < t.next[s].length := by omega
    have e := nx_eq hs h2 hv.nxt
    have h3 : classV t.bands v < t.next[s].length := by omega
    simp -implicitDefEqProofs +contextual (maxSteps := 4000000) [-Int.not_le, -Int.not_lt, -Nat.not_le, -Nat.not_lt, -UInt32.toNat_or, -UInt32.toNat_xor, -UInt32.toNat_and, -UInt8.toNat_or, -UInt8.toNat_xor, -UInt8.toNat_and, -UInt32.toNat_add, -UInt8.toNat_add, -List.map_take, -List.map_drop, ← List.map_take, ← List.map_drop, -List.length_take, -List.length_drop, -List.map_replicate, rep_pY0, rep_pB0, rep_pI0, e_walker_step.eq_1, Tryd.results58, h_walker_class, Ok_walker_class, hk, hb, hc, hs, h2, h3, hcl.1, ← e]
    decide +kernel
def e_walk_Breaks : Tab × (List Int) → List PV := fun (t, l) => [pT t, sI l]
noncomputable def g_walk_Breaks : List PV → Option (PV × List PV) := spec e_walk_Breaks (fun (t, l) => wide t ∧ l.length < 2 ^ 40) fun (t, l) => (.tup [tI (brkV t l), pB (staB t l)], [])
theorem e_walk_Breaks_inj (a b : Tab × (List Int)) (h : e_walk_Breaks a = e_walk_Breaks b) : a = b := by
  obtain ⟨⟨t1a, t1b, t1c, t1d⟩, l1⟩ := a; obtain ⟨⟨t2a, t2b, t2c, t2d⟩, l2⟩ := b; simp [e_walk_Breaks, map_pI_inj, map_pB_inj, map_pY_inj, map_pBand_inj, map_sI_inj, str_inj, Int.natCast_inj, UInt8.toNat_inj, UInt32.toNat_inj] at h; first | exact h | (simp [h]; done) | exact UInt32.toNat_inj.1 (by omega) | exact UInt8.toNat_inj.1 (by omega) | (simp only [Prod.mk.injEq, ← UInt8.toNat_inj, ← UInt32.toNat_inj] at *; omega) | grind
theorem Ok_walk_Breaks {t : Tab} {l : List Int} {K : PV × List PV → Prop} : Ok (g_walk_Breaks [pT t, sI l]) K = ((wide t ∧ l.length < 2 ^ 40) ∧ K (.tup [tI (brkV t l), pB (staB t l)], [])) := Ok_spec e_walk_Breaks_inj (t, l)
set_option maxHeartbeats 1000000 in
theorem impl_walk_Breaks {tbl : Tbl} {G : Nat → Option (List PV)} (hT : Tb tbl G) (h_walk_begun : tbl 57 = g_walk_begun) (h_walker_step : tbl 58 = g_walker_step) : Impl Tryd.prog G 36 (g_walk_Breaks) := by
  refine impl_p (E := En tbl G 43 k_walk_Breaks []) (c := _) hT mixed Tryd.func36 rfl rfl (fun a => by simp [e_walk_Breaks, pinned.eq_1, pinned.eq_2, PV.isMut.eq_1, PV.isMut.eq_2]) ?_
  rintro ⟨t, l⟩ hok
  refine ⟨by simp [e_walk_Breaks], ?_⟩
  replace hok : wide t ∧ l.length < 2 ^ 40 := hok
  obtain ⟨hw, hl⟩ := hok
  have hk : Kn t.bands [] := by intro p hp; cases hp
  by_cases h : validE t = 0
  case neg =>
    have e0 : stsV t l = none := by unfold stsV; rw [if_neg h]
    have e1 : brkV t l = [] := by unfold brkV; rw [e0]; rfl
    have e2 : staB t l = false := by unfold staB; rw [e0]; rfl
    simp -implicitDefEqProofs +contextual (maxSteps := 4000000) [-Int.not_le, -Int.not_lt, -Nat.not_le, -Nat.not_lt, -UInt32.toNat_or, -UInt32.toNat_xor, -UInt32.toNat_and, -UInt8.toNat_or, -UInt8.toNat_xor, -UInt8.toNat_and, -UInt32.toNat_add, -UInt8.toNat_add, -List.map_take, -List.map_drop, ← List.map_take, ← List.map_drop, -List.length_take, -List.length_drop, -List.map_replicate, rep_pY0, rep_pB0, rep_pI0, e_walk_Breaks.eq_1, Tryd.results36, h_walk_begun, Ok_walk_begun, h_walker_step, Ok_walker_step, hw, h, e1, e2]
  have hv := validE_iff.1 h
  have h5 := hv.cnt.n
  have hbk := hv.cnt.k
  have hsv : stsV t l = stsL t 0 l := by unfold stsV; rw [if_pos h]
  simp -implicitDefEqProofs +contextual (maxSteps := 4000000) [-Int.not_le, -Int.not_lt, -Nat.not_le, -Nat.not_lt, -UInt32.toNat_or, -UInt32.toNat_xor, -UInt32.toNat_and, -UInt8.toNat_or, -UInt8.toNat_xor, -UInt8.toNat_and, -UInt32.toNat_add, -UInt8.toNat_add, -List.map_take, -List.map_drop, ← List.map_take, ← List.map_drop, -List.length_take, -List.length_drop, -List.map_replicate, rep_pY0, rep_pB0, rep_pI0, e_walk_Breaks.eq_1, Tryd.results36, h_walk_begun, Ok_walk_begun, h_walker_step, Ok_walker_step, hw, h]
  refine loopu (fun (x : Nat × List (Int × Int) × Nat × List Nat) => x.1 ≤ l.length ∧ Kn t.bands x.2.1 ∧ x.2.2.1 < t.next.length ∧ stsL t 0 (l.take x.1) = some (x.2.2.2 ++ [x.2.2.1]))
    (fun x => [(6, wP t x.2.1 x.2.2.1), (8, tI (brkIx t x.2.2.2)), (9, pI x.1)])
    (fun x => l.length - x.1) ?_ (s := (0, [], 0, [])) rfl ⟨Nat.zero_le _, hk, by simp only; omega, rfl⟩
  rintro ⟨i, M, s, p⟩ ⟨hi, hM, hs, hp⟩
  simp only at hi hM hs hp
  have hpl : p.length = i := by have := (stsL_ne hp).1; rw [List.length_append, List.length_take] at this; simp at this; omega
  have hbl : (brkIx t p).length ≤ i := by unfold brkIx; rw [List.length_map]; exact Nat.le_trans (List.length_filter_le _ _) (by simp [hpl])
  have hsb : s < t.brk.length := by omega
  have hbs := bk_eq hsb
  have hx := brkIx_snoc (t := t) (p := p) (s := s)
  rw [hpl] at hx
  have c1 : ((brkIx t p).length + 1) * 9 ≤ 70368744177664 := by omega
  by_cases hlt : i < l.length
  case neg =>
    have hil : (i : Int) = l.length := by omega
    have hp' := stsL_all hlt hp
    have e1 : brkV t l = brkIx t (p ++ [s]) := by unfold brkV; rw [hsv, hp']; rfl
    have e2 : staB t l = true := by unfold staB; rw [hsv, hp']; rfl
    cases hb : t.brk[s]
    · rw [hbs, hb, if_neg (by decide), List.append_nil] at hx
      simp -implicitDefEqProofs +contextual (maxSteps := 4000000) [-Int.not_le, -Int.not_lt, -Nat.not_le, -Nat.not_lt, -UInt32.toNat_or, -UInt32.toNat_xor, -UInt32.toNat_and, -UInt8.toNat_or, -UInt8.toNat_xor, -UInt8.toNat_and, -UInt32.toNat_add, -UInt8.toNat_add, -List.map_take, -List.map_drop, ← List.map_take, ← List.map_drop, -List.length_take, -List.length_drop, -List.map_replicate, rep_pY0, rep_pB0, rep_pI0, e_walk_Breaks.eq_1, Tryd.results36, h_walk_begun, Ok_walk_begun, h_walker_step, Ok_walker_step, hil, hsb, hb, e1, e2, hx]
      decide +kernel
    · rw [hbs, hb, if_pos rfl] at hx
      simp -implicitDefEqProofs +contextual (maxSteps := 4000000) [-Int.not_le, -Int.not_lt, -Nat.not_le, -Nat.not_lt, -UInt32.toNat_or, -UInt32.toNat_xor, -UInt32.toNat_and, -UInt8.toNat_or, -UInt8.toNat_xor, -UInt8.toNat_and, -UInt32.toNat_add, -UInt8.toNat_add, -List.map_take, -List.map_drop, ← List.map_take, ← List.map_drop, -List.length_take, -List.length_drop, -List.map_replicate, rep_pY0, rep_pB0, rep_pI0, e_walk_Breaks.eq_1, Tryd.results36, h_walk_begun, Ok_walk_begun, h_walker_step, Ok_walker_step, hil, hsb, hb, e1, e2, hx, c1]
      decide +kernel
  have hil : ¬ (i : Int) = l.length := by omega
  cases hc : classB t.bands l[i]
  · have hst := stsL_stop hlt hp hc
    have e1 : brkV t l = [] := by unfold brkV; rw [hsv, hst]; rfl
    have e2 : staB t l = false := by unfold staB; rw [hsv, hst]; rfl
    cases hb : t.brk[s]
    · simp -implicitDefEqProofs +contextual (maxSteps := 4000000) [-Int.not_le, -Int.not_lt, -Nat.not_le, -Nat.not_lt, -UInt32.toNat_or, -UInt32.toNat_xor, -UInt32.toNat_and, -UInt8.toNat_or, -UInt8.toNat_xor, -UInt8.toNat_and, -UInt32.toNat_add, -UInt8.toNat_add, -List.map_take, -List.map_drop, ← List.map_take, ← List.map_drop, -List.length_take, -List.length_drop, -List.map_replicate, rep_pY0, rep_pB0, rep_pI0, e_walk_Breaks.eq_1, Tryd.results36, h_walk_begun, Ok_walk_begun, h_walker_step, Ok_walker_step, hlt, hil, hsb, hb, hM, hv, hs, hc, e1, e2]
      decide +kernel
    · simp -implicitDefEqProofs +contextual (maxSteps := 4000000) [-Int.not_le, -Int.not_lt, -Nat.not_le, -Nat.not_lt, -UInt32.toNat_or, -UInt32.toNat_xor, -UInt32.toNat_and, -UInt8.toNat_or, -UInt8.toNat_xor, -UInt8.toNat_and, -UInt32.toNat_add, -UInt8.toNat_add, -List.map_take, -List.map_drop, ← List.map_take, ← List.map_drop, -List.length_take, -List.length_drop, -List.map_replicate, rep_pY0, rep_pB0, rep_pI0, e_walk_Breaks.eq_1, Tryd.results36, h_walk_begun, Ok_walk_begun, h_walker_step, Ok_walker_step, hlt, hil, hsb, hb, hM, hv, hs, hc, e1, e2, c1]
      decide +kernel
  · have hcl := hv.class hc
    have hnx := inn_of hv.cnt hv.nxt s (classV t.bands l[i]).toNat hs (by omega)
    have hst := stsL_step hlt hp hc
    cases hb : t.brk[s]
    · rw [hbs, hb, if_neg (by decide), List.append_nil] at hx
      simp -implicitDefEqProofs +contextual (maxSteps := 4000000) [-Int.not_le, -Int.not_lt, -Nat.not_le, -Nat.not_lt, -UInt32.toNat_or, -UInt32.toNat_xor, -UInt32.toNat_and, -UInt8.toNat_or, -UInt8.toNat_xor, -UInt8.toNat_and, -UInt32.toNat_add, -UInt8.toNat_add, -List.map_take, -List.map_drop, ← List.map_take, ← List.map_drop, -List.length_take, -List.length_drop, -List.map_replicate, rep_pY0, rep_pB0, rep_pI0, e_walk_Breaks.eq_1, Tryd.results36, h_walk_begun, Ok_walk_begun, h_walker_step, Ok_walker_step, hlt, hil, hsb, hb, hM, hv, hs, hc]
      exact ⟨by decide +kernel, by unfold fits; omega, fun _ => ⟨i + 1, _, _, p ++ [s], ⟨by omega, Mn_kn hM, hnx, hst⟩, by omega, ⟨rfl, rfl⟩, by rw [hx], by omega⟩⟩
    · rw [hbs, hb, if_pos rfl] at hx
      simp -implicitDefEqProofs +contextual (maxSteps := 4000000) [-Int.not_le, -Int.not_lt, -Nat.not_le, -Nat.not_lt, -UInt32.toNat_or, -UInt32.toNat_xor, -UInt32.toNat_and, -UInt8.toNat_or, -UInt8.toNat_xor, -UInt8.toNat_and, -UInt32.toNat_add, -UInt8.toNat_add, -List.map_take, -List.map_drop, ← List.map_take, ← List.map_drop, -List.length_take, -List.length_drop, -List.map_replicate, rep_pY0, rep_pB0, rep_pI0, e_walk_Breaks.eq_1, Tryd.results36, h_walk_begun, Ok_walk_begun, h_walker_step, Ok_walker_step, hlt, hil, hsb, hb, hM, hv, hs, hc, c1]
      exact ⟨by decide +kernel, by unfold fits; omega, fun _ => ⟨i + 1, _, _, p ++ [s], ⟨by omega, Mn_kn hM, hnx, hst⟩, by omega, ⟨rfl, rfl⟩, by rw [hx, List.map_append]; rfl, by omega⟩⟩

end Go.V
