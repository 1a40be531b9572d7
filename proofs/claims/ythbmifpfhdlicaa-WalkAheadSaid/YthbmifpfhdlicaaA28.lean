/- A part of this seat's proofs: contracts of functions, or what these lean on. No condition. -/
import Derived.Test.YthbmifpfhdlicaaA27
import Derived.Test.YthbmifpfhdlicaaA24
namespace Go.V
open Go.Proofs
set_option maxRecDepth 8000
set_option linter.unusedSimpArgs false
set_option linter.unusedVariables false
noncomputable def clsR (t : Tab) (v : Int) : Int := if clsB t v = true then clsW t v else -1
def natsI (p : List Nat) : List Int := p.map fun (n : Nat) => (n : Int)
theorem natsI_len {p : List Nat} : (natsI p).length = p.length := by simp [natsI]
theorem natsI_get {p : List Nat} {i : Nat} (h : i < (natsI p).length) : (natsI p)[i] = (p[i]'(by rw [← natsI_len]; exact h) : Nat) := by simp [natsI]
theorem natsI_app {p q : List Nat} : natsI (p ++ q) = natsI p ++ natsI q := by simp [natsI]
def e_ref08_Class : Tab × Int → List PV := fun (t, v) => [pT t, pI v]
noncomputable def g_ref08_Class : List PV → Option (PV × List PV) := spec e_ref08_Class (fun (t, v) => wide t) fun (t, v) => (pI (clsR t v), [])
theorem e_ref08_Class_inj (a b : Tab × Int) (h : e_ref08_Class a = e_ref08_Class b) : a = b := by
  obtain ⟨⟨t1a, t1b, t1c, t1d⟩, v1⟩ := a; obtain ⟨⟨t2a, t2b, t2c, t2d⟩, v2⟩ := b; simp [e_ref08_Class, map_pI_inj, map_pB_inj, map_pY_inj, map_pBand_inj, map_sI_inj, Int.natCast_inj, UInt8.toNat_inj, UInt32.toNat_inj] at h; first | exact h | (simp [h]; done) | exact UInt32.toNat_inj.1 (by omega) | exact UInt8.toNat_inj.1 (by omega) | (simp only [Prod.mk.injEq, ← UInt8.toNat_inj, ← UInt32.toNat_inj] at *; omega) | grind
theorem Ok_ref08_Class {t : Tab} {v : Int} {K : PV × List PV → Prop} : Ok (g_ref08_Class [pT t, pI v]) K = ((wide t) ∧ K (pI (clsR t v), [])) := Ok_spec e_ref08_Class_inj (t, v)
set_option maxHeartbeats 1000000 in
theorem impl_ref08_Class {tbl : Tbl} {G : Nat → Option (List PV)} (hT : Tb tbl G) (h_ref07_Table : tbl 36 = g_ref07_Table) (h_ref04_Of : tbl 89 = g_ref04_Of) : Impl Try.prog G 47 (g_ref08_Class) := by
  refine impl_p (E := En tbl G 21 k_ref08_Class []) (c := _) hT mixed Try.func47 rfl rfl (fun a => by simp [e_ref08_Class, pinned.eq_1, pinned.eq_2, PV.isMut.eq_1, PV.isMut.eq_2]) ?_
  rintro ⟨t, v⟩ hok
  refine ⟨by simp [e_ref08_Class], ?_⟩
  replace hok : wide t := hok
  by_cases h : validE t = 0
  · have hb : t.bands.length < 2 ^ 62 := by have := (validE_iff.1 h).cnt.b; omega
    have hr := bandI_r (l := t.bands) (v := v)
    by_cases hk : bandI t.bands v < 0
    · have e : clsR t v = -1 := by unfold clsR clsB classB; rw [if_neg (by simp; omega)]
      simp -implicitDefEqProofs +contextual (maxSteps := 4000000) [-Int.not_le, -Int.not_lt, -Nat.not_le, -Nat.not_lt, -UInt32.toNat_or, -UInt32.toNat_xor, -UInt32.toNat_and, -UInt8.toNat_or, -UInt8.toNat_xor, -UInt8.toNat_and, -UInt32.toNat_add, -UInt8.toNat_add, -List.map_take, -List.map_drop, ← List.map_take, ← List.map_drop, -List.length_take, -List.length_drop, -List.map_replicate, rep_pY0, rep_pB0, rep_pI0, e_ref08_Class.eq_1, Try.results47, h_ref07_Table, Ok_ref07_Table, h_ref04_Of, Ok_ref04_Of, hok, hb, h, hk, e]
    · have h1 : (bandI t.bands v).toNat < t.bands.length := by omega
      have e : clsR t v = (t.bands[(bandI t.bands v).toNat]).2 := by
        unfold clsR clsB classB clsW classV
        rw [if_pos (by simp [h]; omega), if_pos h, if_pos (by omega), List.getD_eq_getElem?_getD, List.getElem?_eq_getElem h1]; rfl
      have h2 : 0 ≤ bandI t.bands v := by omega
      have h3 : bandI t.bands v < t.bands.length := by omega
      simp -implicitDefEqProofs +contextual (maxSteps := 4000000) [-Int.not_le, -Int.not_lt, -Nat.not_le, -Nat.not_lt, -UInt32.toNat_or, -UInt32.toNat_xor, -UInt32.toNat_and, -UInt8.toNat_or, -UInt8.toNat_xor, -UInt8.toNat_and, -UInt32.toNat_add, -UInt8.toNat_add, -List.map_take, -List.map_drop, ← List.map_take, ← List.map_drop, -List.length_take, -List.length_drop, -List.map_replicate, rep_pY0, rep_pB0, rep_pI0, e_ref08_Class.eq_1, Try.results47, h_ref07_Table, Ok_ref07_Table, h_ref04_Of, Ok_ref04_Of, hok, hb, h, hk, e, h1, h2, h3]
  · have e : clsR t v = -1 := by unfold clsR clsB; rw [if_neg (by simp [h])]
    simp -implicitDefEqProofs +contextual (maxSteps := 4000000) [-Int.not_le, -Int.not_lt, -Nat.not_le, -Nat.not_lt, -UInt32.toNat_or, -UInt32.toNat_xor, -UInt32.toNat_and, -UInt8.toNat_or, -UInt8.toNat_xor, -UInt8.toNat_and, -UInt32.toNat_add, -UInt8.toNat_add, -List.map_take, -List.map_drop, ← List.map_take, ← List.map_drop, -List.length_take, -List.length_drop, -List.map_replicate, rep_pY0, rep_pB0, rep_pI0, e_ref08_Class.eq_1, Try.results47, h_ref07_Table, Ok_ref07_Table, h_ref04_Of, Ok_ref04_Of, hok, h, e]
def e_ref08_States : Tab × (List Int) → List PV := fun (t, l) => [pT t, sI l]
noncomputable def g_ref08_States : List PV → Option (PV × List PV) := spec e_ref08_States (fun (t, l) => wide t ∧ l.length < 2 ^ 40) fun (t, l) => (.agg [tI (natsI ((stsV t l).getD [])), pB (staB t l)], [])
theorem e_ref08_States_inj (a b : Tab × (List Int)) (h : e_ref08_States a = e_ref08_States b) : a = b := by
  obtain ⟨⟨t1a, t1b, t1c, t1d⟩, l1⟩ := a; obtain ⟨⟨t2a, t2b, t2c, t2d⟩, l2⟩ := b; simp [e_ref08_States, map_pI_inj, map_pB_inj, map_pY_inj, map_pBand_inj, map_sI_inj, Int.natCast_inj, UInt8.toNat_inj, UInt32.toNat_inj] at h; first | exact h | (simp [h]; done) | exact UInt32.toNat_inj.1 (by omega) | exact UInt8.toNat_inj.1 (by omega) | (simp only [Prod.mk.injEq, ← UInt8.toNat_inj, ← UInt32.toNat_inj] at *; omega) | grind
theorem Ok_ref08_States {t : Tab} {l : List Int} {K : PV × List PV → Prop} : Ok (g_ref08_States [pT t, sI l]) K = ((wide t ∧ l.length < 2 ^ 40) ∧ K (.agg [tI (natsI ((stsV t l).getD [])), pB (staB t l)], [])) := Ok_spec e_ref08_States_inj (t, l)
set_option maxHeartbeats 2000000 in
theorem impl_ref08_States {tbl : Tbl} {G : Nat → Option (List PV)} (hT : Tb tbl G) (h_ref07_Table : tbl 36 = g_ref07_Table) (h_ref04_Of : tbl 89 = g_ref04_Of) : Impl Try.prog G 48 (g_ref08_States) := by
  refine impl_p (E := En tbl G 50 k_ref08_States []) (c := _) hT mixed Try.func48 rfl rfl (fun a => by simp [e_ref08_States, pinned.eq_1, pinned.eq_2, PV.isMut.eq_1, PV.isMut.eq_2]) ?_
  rintro ⟨t, l⟩ hok
  refine ⟨by simp [e_ref08_States], ?_⟩
  replace hok : wide t ∧ l.length < 2 ^ 40 := hok
  obtain ⟨hw, hl⟩ := hok
  by_cases h : validE t = 0
  case neg =>
    have e0 : stsV t l = none := by unfold stsV; rw [if_neg h]
    have e1 : natsI ((stsV t l).getD []) = [] := by rw [e0]; rfl
    have e2 : staB t l = false := by unfold staB; rw [e0]; rfl
    simp -implicitDefEqProofs +contextual (maxSteps := 4000000) [-Int.not_le, -Int.not_lt, -Nat.not_le, -Nat.not_lt, -UInt32.toNat_or, -UInt32.toNat_xor, -UInt32.toNat_and, -UInt8.toNat_or, -UInt8.toNat_xor, -UInt8.toNat_and, -UInt32.toNat_add, -UInt8.toNat_add, -List.map_take, -List.map_drop, ← List.map_take, ← List.map_drop, -List.length_take, -List.length_drop, -List.map_replicate, rep_pY0, rep_pB0, rep_pI0, e_ref08_States.eq_1, Try.results48, h_ref07_Table, Ok_ref07_Table, h_ref04_Of, Ok_ref04_Of, hw, h, e1, e2]
  have hv := validE_iff.1 h
  have h5 := hv.cnt.n
  have hb60 := hv.cnt.b
  have hsv : stsV t l = stsL t 0 l := by unfold stsV; rw [if_pos h]
  simp -implicitDefEqProofs +contextual (maxSteps := 4000000) [-Int.not_le, -Int.not_lt, -Nat.not_le, -Nat.not_lt, -UInt32.toNat_or, -UInt32.toNat_xor, -UInt32.toNat_and, -UInt8.toNat_or, -UInt8.toNat_xor, -UInt8.toNat_and, -UInt32.toNat_add, -UInt8.toNat_add, -List.map_take, -List.map_drop, ← List.map_take, ← List.map_drop, -List.length_take, -List.length_drop, -List.map_replicate, rep_pY0, rep_pB0, rep_pI0, e_ref08_States.eq_1, Try.results48, h_ref07_Table, Ok_ref07_Table, h_ref04_Of, Ok_ref04_Of, hw, h]
  refine loopu (fun (x : Nat × List Nat × Nat) => x.1 ≤ l.length ∧ x.2.2 < t.next.length ∧ stsL t 0 (l.take x.1) = some (x.2.1 ++ [x.2.2]))
    (fun x => [(5, tI (natsI (x.2.1 ++ [x.2.2]))), (6, pI x.1)])
    (fun x => l.length - x.1) ?_ (s := (0, [], 0)) rfl ⟨Nat.zero_le _, by simp only; omega, rfl⟩
  rintro ⟨i, p, s⟩ ⟨hi, hs, hp⟩
  simp only at hi hs hp
  have hpl : p.length = i := by have := (stsL_ne hp).1; rw [List.length_append, List.length_take] at this; simp at this; omega
  have hnl : (natsI (p ++ [s])).length = i + 1 := by rw [natsI_len, List.length_append, hpl]; rfl
  have hlt1 : i < (natsI (p ++ [s])).length := by omega
  have hng : (natsI (p ++ [s]))[i] = (s : Int) := by
    rw [natsI_get]
    have : (p ++ [s])[i]'(by rw [List.length_append, hpl]; exact Nat.lt_succ_self _) = s := by
      rw [List.getElem_append_right (by omega)]; simp [hpl]
    rw [this]
  by_cases hlt : i < l.length
  case neg =>
    have hp' := stsL_all hlt hp
    have e1 : (stsV t l).getD [] = p ++ [s] := by rw [hsv, hp']; rfl
    have e2 : staB t l = true := by unfold staB; rw [hsv, hp']; rfl
    simp -implicitDefEqProofs +contextual (maxSteps := 4000000) [-Int.not_le, -Int.not_lt, -Nat.not_le, -Nat.not_lt, -UInt32.toNat_or, -UInt32.toNat_xor, -UInt32.toNat_and, -UInt8.toNat_or, -UInt8.toNat_xor, -UInt8.toNat_and, -UInt32.toNat_add, -UInt8.toNat_add, -List.map_take, -List.map_drop, ← List.map_take, ← List.map_drop, -List.length_take, -List.length_drop, -List.map_replicate, rep_pY0, rep_pB0, rep_pI0, e_ref08_States.eq_1, Try.results48, h_ref07_Table, Ok_ref07_Table, h_ref04_Of, Ok_ref04_Of, hlt, e1, e2]
  have hr := bandI_r (l := t.bands) (v := l[i])
  by_cases hk : bandI t.bands l[i] < 0
  · have hc : classB t.bands l[i] = false := by unfold classB; simp; omega
    have hst := stsL_stop hlt hp hc
    have e1 : natsI ((stsV t l).getD []) = [] := by rw [hsv, hst]; rfl
    have e2 : staB t l = false := by unfold staB; rw [hsv, hst]; rfl
    simp -implicitDefEqProofs +contextual (maxSteps := 4000000) [-Int.not_le, -Int.not_lt, -Nat.not_le, -Nat.not_lt, -UInt32.toNat_or, -UInt32.toNat_xor, -UInt32.toNat_and, -UInt8.toNat_or, -UInt8.toNat_xor, -UInt8.toNat_and, -UInt32.toNat_add, -UInt8.toNat_add, -List.map_take, -List.map_drop, ← List.map_take, ← List.map_drop, -List.length_take, -List.length_drop, -List.map_replicate, rep_pY0, rep_pB0, rep_pI0, e_ref08_States.eq_1, Try.results48, h_ref07_Table, Ok_ref07_Table, h_ref04_Of, Ok_ref04_Of, hlt, hk, hb60, e1, e2]
    exact ⟨by omega, by decide +kernel⟩
  · have hc : classB t.bands l[i] = true := by unfold classB; simp; omega
    have h1 : (bandI t.bands l[i]).toNat < t.bands.length := by omega
    have h2 : 0 ≤ bandI t.bands l[i] := by omega
    have h3 : bandI t.bands l[i] < t.bands.length := by omega
    have hcv : classV t.bands l[i] = (t.bands[(bandI t.bands l[i]).toNat]).2 := by
      unfold classV
      rw [if_pos (by omega), List.getD_eq_getElem?_getD, List.getElem?_eq_getElem h1]; rfl
    have hcl := hv.class hc
    have hrr := hv.cnt.r _ (List.getElem_mem hs)
    have h4 : (classV t.bands l[i]).toNat < t.next[s].length := by omega
    have e := nx_eq hs h4 hv.nxt
    have h6 : classV t.bands l[i] < t.next[s].length := by omega
    have hnx := inn_of hv.cnt hv.nxt s (classV t.bands l[i]).toNat hs (by omega)
    have hst := stsL_step hlt hp hc
    simp -implicitDefEqProofs +contextual (maxSteps := 4000000) [-Int.not_le, -Int.not_lt, -Nat.not_le, -Nat.not_lt, -UInt32.toNat_or, -UInt32.toNat_xor, -UInt32.toNat_and, -UInt8.toNat_or, -UInt8.toNat_xor, -UInt8.toNat_and, -UInt32.toNat_add, -UInt8.toNat_add, -List.map_take, -List.map_drop, ← List.map_take, ← List.map_drop, -List.length_take, -List.length_drop, -List.map_replicate, rep_pY0, rep_pB0, rep_pI0, e_ref08_States.eq_1, Try.results48, h_ref07_Table, Ok_ref07_Table, h_ref04_Of, Ok_ref04_Of, hlt, hk, h1, h2, h3, hnl, hlt1, hng, hs, ← hcv, h4, h6, hcl.1, ← e]
    exact ⟨by omega, by decide +kernel, by omega, fun _ => ⟨by omega, fun _ => ⟨by decide +kernel, by unfold fits; omega, fun _ => ⟨i + 1, p ++ [s], _, ⟨by omega, hnx, hst⟩, by omega, by rw [natsI_app (p := p ++ [s]), List.map_append]; rfl, by omega⟩⟩⟩⟩
theorem brkIx_take {t : Tab} {p : List Nat} {i : Nat} (h : i < p.length) : brkIx t (p.take (i + 1)) = brkIx t (p.take i) ++ if bk t p[i] = true then [(i : Int)] else [] := by
  rw [take_succ' h, brkIx_snoc, List.length_take, show min i p.length = i by omega]
def e_ref08_Breaks : Tab × (List Int) → List PV := fun (t, l) => [pT t, sI l]
noncomputable def g_ref08_Breaks : List PV → Option (PV × List PV) := spec e_ref08_Breaks (fun (t, l) => wide t ∧ l.length < 2 ^ 40) fun (t, l) => (.tup [tI (brkV t l), pB (staB t l)], [])
theorem e_ref08_Breaks_inj (a b : Tab × (List Int)) (h : e_ref08_Breaks a = e_ref08_Breaks b) : a = b := by
  obtain ⟨⟨t1a, t1b, t1c, t1d⟩, l1⟩ := a; obtain ⟨⟨t2a, t2b, t2c, t2d⟩, l2⟩ := b; simp [e_ref08_Breaks, map_pI_inj, map_pB_inj, map_pY_inj, map_pBand_inj, map_sI_inj, Int.natCast_inj, UInt8.toNat_inj, UInt32.toNat_inj] at h; first | exact h | (simp [h]; done) | exact UInt32.toNat_inj.1 (by omega) | exact UInt8.toNat_inj.1 (by omega) | (simp only [Prod.mk.injEq, ← UInt8.toNat_inj, ← UInt32.toNat_inj] at *; omega) | grind
theorem Ok_ref08_Breaks {t : Tab} {l : List Int} {K : PV × List PV → Prop} : Ok (g_ref08_Breaks [pT t, sI l]) K = ((wide t ∧ l.length < 2 ^ 40) ∧ K (.tup [tI (brkV t l), pB (staB t l)], [])) := Ok_spec e_ref08_Breaks_inj (t, l)
set_option maxHeartbeats 2000000 in
theorem impl_ref08_Breaks {tbl : Tbl} {G : Nat → Option (List PV)} (hT : Tb tbl G) (h_ref08_States : tbl 48 = g_ref08_States) : Impl Try.prog G 49 (g_ref08_Breaks) := by
  refine impl_p (E := En tbl G 35 k_ref08_Breaks []) (c := _) hT mixed Try.func49 rfl rfl (fun a => by simp [e_ref08_Breaks, pinned.eq_1, pinned.eq_2, PV.isMut.eq_1, PV.isMut.eq_2]) ?_
  rintro ⟨t, l⟩ hok
  refine ⟨by simp [e_ref08_Breaks], ?_⟩
  replace hok : wide t ∧ l.length < 2 ^ 40 := hok
  obtain ⟨hw, hl⟩ := hok
  have hok2 : wide t ∧ l.length < 2 ^ 40 := ⟨hw, hl⟩
  obtain ⟨P, hP, hPv, hPb⟩ : ∃ P, (stsV t l).getD [] = P ∧ brkV t l = brkIx t P ∧ ((∀ x ∈ P, x < t.brk.length) ∧ P.length ≤ l.length + 1) := by
    refine ⟨_, rfl, ?_, ?_⟩
    · unfold brkV; cases stsV t l <;> rfl
    · cases hh : stsV t l with
      | none => exact ⟨fun x hx => (by cases hx), Nat.zero_le _⟩
      | some P =>
        unfold stsV at hh
        split at hh
        · rename_i h0
          have hv := validE_iff.1 h0
          have h5 := hv.cnt.n
          exact ⟨fun x hx => by rw [hv.cnt.k]; exact hv.sts (by omega) hh x hx, by have := (stsL_ne hh).1; exact Nat.le_of_eq this⟩
        · cases hh
  simp -implicitDefEqProofs +contextual (maxSteps := 4000000) [-Int.not_le, -Int.not_lt, -Nat.not_le, -Nat.not_lt, -UInt32.toNat_or, -UInt32.toNat_xor, -UInt32.toNat_and, -UInt8.toNat_or, -UInt8.toNat_xor, -UInt8.toNat_and, -UInt32.toNat_add, -UInt8.toNat_add, -List.map_take, -List.map_drop, ← List.map_take, ← List.map_drop, -List.length_take, -List.length_drop, -List.map_replicate, rep_pY0, rep_pB0, rep_pI0, e_ref08_Breaks.eq_1, Try.results49, h_ref08_States, Ok_ref08_States, hok2, hP]
  refine loopu (fun i => i ≤ P.length)
    (fun i => [(7, tI (brkIx t (P.take i))), (8, pI i)])
    (fun i => P.length - i) ?_ (s := 0) rfl (by simp)
  intro i hi
  have hnl : (natsI P).length = P.length := natsI_len
  have hbl : (brkIx t (P.take i)).length ≤ i := by unfold brkIx; rw [List.length_map]; exact Nat.le_trans (List.length_filter_le _ _) (by rw [List.length_range, List.length_take]; omega)
  by_cases hlt : i < P.length
  · have hng : (natsI P)[i]'(by rw [hnl]; exact hlt) = (P[i] : Int) := natsI_get _
    have hbi := hPb.1 _ (List.getElem_mem hlt)
    have hx := brkIx_take (t := t) hlt
    rw [bk_eq hbi] at hx
    simp -implicitDefEqProofs +contextual (maxSteps := 4000000) [-Int.not_le, -Int.not_lt, -Nat.not_le, -Nat.not_lt, -UInt32.toNat_or, -UInt32.toNat_xor, -UInt32.toNat_and, -UInt8.toNat_or, -UInt8.toNat_xor, -UInt8.toNat_and, -UInt32.toNat_add, -UInt8.toNat_add, -List.map_take, -List.map_drop, ← List.map_take, ← List.map_drop, -List.length_take, -List.length_drop, -List.map_replicate, rep_pY0, rep_pB0, rep_pI0, e_ref08_Breaks.eq_1, Try.results49, h_ref08_States, Ok_ref08_States, hnl, hlt, hng, hbi]
    refine ⟨by decide +kernel, fun b => ⟨by omega, fun _ => ⟨by unfold fits; omega, fun _ => ⟨i + 1, by omega, by omega, by rw [hx, if_pos b, List.map_append]; rfl, by omega⟩⟩⟩, fun b => ⟨by unfold fits; omega, fun _ => ⟨i + 1, by omega, by omega, by rw [hx, if_neg (by simp [b]), List.append_nil], by omega⟩⟩⟩
  · simp -implicitDefEqProofs +contextual (maxSteps := 4000000) [-Int.not_le, -Int.not_lt, -Nat.not_le, -Nat.not_lt, -UInt32.toNat_or, -UInt32.toNat_xor, -UInt32.toNat_and, -UInt8.toNat_or, -UInt8.toNat_xor, -UInt8.toNat_and, -UInt32.toNat_add, -UInt8.toNat_add, -List.map_take, -List.map_drop, ← List.map_take, ← List.map_drop, -List.length_take, -List.length_drop, -List.map_replicate, rep_pY0, rep_pB0, rep_pI0, e_ref08_Breaks.eq_1, Try.results49, h_ref08_States, Ok_ref08_States, hnl, hlt, hPv]
    exact ⟨by decide +kernel, by rw [List.take_of_length_le (by omega)]⟩
def e_law08_upto : (List Int) × Int → List PV := fun (l, n) => [sI l, pI n]
noncomputable def g_law08_upto : List PV → Option (PV × List PV) := spec e_law08_upto (fun (l, n) => l.length < 2 ^ 40) fun (l, n) => (tI (l.filter fun x => decide (x ≤ n)), [])
theorem e_law08_upto_inj (a b : (List Int) × Int) (h : e_law08_upto a = e_law08_upto b) : a = b := by
  obtain ⟨l1, n1⟩ := a; obtain ⟨l2, n2⟩ := b; simp [e_law08_upto, map_pI_inj, map_pB_inj, map_pY_inj, map_pBand_inj, map_sI_inj, Int.natCast_inj, UInt8.toNat_inj, UInt32.toNat_inj] at h; first | exact h | (simp [h]; done) | exact UInt32.toNat_inj.1 (by omega) | exact UInt8.toNat_inj.1 (by omega) | (simp only [Prod.mk.injEq, ← UInt8.toNat_inj, ← UInt32.toNat_inj] at *; omega) | grind
theorem Ok_law08_upto {l : List Int} {n : Int} {K : PV × List PV → Prop} : Ok (g_law08_upto [sI l, pI n]) K = ((l.length < 2 ^ 40) ∧ K (tI (l.filter fun x => decide (x ≤ n)), [])) := Ok_spec e_law08_upto_inj (l, n)
set_option maxHeartbeats 1000000 in
theorem impl_law08_upto {tbl : Tbl} {G : Nat → Option (List PV)} (hT : Tb tbl G) : Impl Try.prog G 44 (g_law08_upto) := by
  refine impl_p (E := En tbl G 27 k_law08_upto []) (c := _) hT mixed Try.func44 rfl rfl (fun a => by simp [e_law08_upto, pinned.eq_1, pinned.eq_2, PV.isMut.eq_1, PV.isMut.eq_2]) ?_
  rintro ⟨l, n⟩ hok
  refine ⟨by simp [e_law08_upto], ?_⟩
  replace hok : l.length < 2 ^ 40 := hok
  simp -implicitDefEqProofs +contextual (maxSteps := 4000000) [-Int.not_le, -Int.not_lt, -Nat.not_le, -Nat.not_lt, -UInt32.toNat_or, -UInt32.toNat_xor, -UInt32.toNat_and, -UInt8.toNat_or, -UInt8.toNat_xor, -UInt8.toNat_and, -UInt32.toNat_add, -UInt8.toNat_add, -List.map_take, -List.map_drop, ← List.map_take, ← List.map_drop, -List.length_take, -List.length_drop, -List.map_replicate, rep_pY0, rep_pB0, rep_pI0, e_law08_upto.eq_1, Try.results44]
  refine loopu (fun i => i ≤ l.length)
    (fun i => [(5, tI ((l.take i).filter fun x => decide (x ≤ n))), (6, pI i)])
    (fun i => l.length - i) ?_ (s := 0) rfl (by simp)
  intro i hi
  have hfl : ((l.take i).filter fun x => decide (x ≤ n)).length ≤ i := Nat.le_trans (List.length_filter_le _ _) (by rw [List.length_take]; omega)
  have hst : i < l.length → (l.take (i + 1)).filter (fun x => decide (x ≤ n)) = (l.take i).filter (fun x => decide (x ≤ n)) ++ if l[i]?.getD 0 ≤ n then [l[i]?.getD 0] else [] := fun h => by
    rw [take_succ' h, List.filter_append]
    simp [h, List.filter_cons]
  simp -implicitDefEqProofs +contextual (maxSteps := 4000000) [-Int.not_le, -Int.not_lt, -Nat.not_le, -Nat.not_lt, -UInt32.toNat_or, -UInt32.toNat_xor, -UInt32.toNat_and, -UInt8.toNat_or, -UInt8.toNat_xor, -UInt8.toNat_and, -UInt32.toNat_add, -UInt8.toNat_add, -List.map_take, -List.map_drop, ← List.map_take, ← List.map_drop, -List.length_take, -List.length_drop, -List.map_replicate, rep_pY0, rep_pB0, rep_pI0, e_law08_upto.eq_1, Try.results44]
  refine ⟨fun a => ?_, fun a => by rw [List.take_of_length_le (by omega)]⟩
  have hs := hst a
  rw [List.getElem?_eq_getElem a] at hs
  simp only [Option.getD_some] at hs
  refine ⟨fun b => ⟨by omega, fun _ => ⟨by unfold fits; omega, fun _ => ⟨i + 1, by omega, by omega, by rw [hs, if_pos b, List.map_append]; rfl, by omega⟩⟩⟩, fun b => ⟨by unfold fits; omega, fun _ => ⟨i + 1, by omega, by omega, by rw [hs, if_neg b, List.append_nil], by omega⟩⟩⟩

end Go.V
