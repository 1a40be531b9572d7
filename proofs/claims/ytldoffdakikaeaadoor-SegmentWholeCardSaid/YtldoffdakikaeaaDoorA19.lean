/- A part of the proof of SegmentWhole: contracts of functions, or what these lean on. No condition. -/
import Derived.Test.YtldoffdakikaeaaDoorA20
namespace Go.V
open Go.Proofs
set_option maxRecDepth 8000
set_option linter.unusedSimpArgs false
set_option linter.unusedVariables false
noncomputable def alkV (t : Tab) (a b : Int) : Bool := cntV t && nxtV t && inR a 0 (t.next.length - 1) && inR b 0 (t.next.length - 1) && alk t a.toNat b.toNat
def e_valid_numbered : Tab → List PV := fun t => [pT t]
noncomputable def g_valid_numbered : List PV → Option (PV × List PV) := spec e_valid_numbered (fun t => small t ∧ Cnt t) fun t => (pB (numV t), [])
theorem e_valid_numbered_inj (a b : Tab) (h : e_valid_numbered a = e_valid_numbered b) : a = b := by
  obtain ⟨t1a, t1b, t1c, t1d⟩ := a; obtain ⟨t2a, t2b, t2c, t2d⟩ := b; simp [e_valid_numbered, map_pI_inj, map_pB_inj, map_pY_inj, map_pBand_inj, map_sI_inj, str_inj, Int.natCast_inj, UInt8.toNat_inj, UInt32.toNat_inj] at h; first | exact h | (simp [h]; done) | exact UInt32.toNat_inj.1 (by omega) | exact UInt8.toNat_inj.1 (by omega) | (simp only [Prod.mk.injEq, ← UInt8.toNat_inj, ← UInt32.toNat_inj] at *; omega) | grind
theorem Ok_valid_numbered {t : Tab} {K : PV × List PV → Prop} : Ok (g_valid_numbered [pT t]) K = ((small t ∧ Cnt t) ∧ K (pB (numV t), [])) := Ok_spec e_valid_numbered_inj t
set_option maxHeartbeats 1000000 in
theorem impl_valid_numbered {tbl : Tbl} {G : Nat → Option (List PV)} (hT : Tb tbl G) (h_valid_inOrder : tbl 81 = g_valid_inOrder) : Impl Tryd.prog G 75 (g_valid_numbered) := by
  refine impl_p (E := En tbl G 28 k_valid_numbered []) (c := _) hT mixed Tryd.func75 rfl rfl (fun a => by simp [e_valid_numbered, pinned.eq_1, pinned.eq_2, PV.isMut.eq_1, PV.isMut.eq_2]) ?_
  rintro t hok
  refine ⟨by simp [e_valid_numbered], ?_⟩
  replace hok : small t ∧ Cnt t := hok
  obtain ⟨hok, hC⟩ := hok
  unfold small at hok
  simp -implicitDefEqProofs +contextual (maxSteps := 4000000) [-Int.not_le, -Int.not_lt, -Nat.not_le, -Nat.not_lt, -UInt32.toNat_or, -UInt32.toNat_xor, -UInt32.toNat_and, -UInt8.toNat_or, -UInt8.toNat_xor, -UInt8.toNat_and, -UInt32.toNat_add, -UInt8.toNat_add, -List.map_take, -List.map_drop, ← List.map_take, ← List.map_drop, -List.length_take, -List.length_drop, -List.map_replicate, rep_pY0, rep_pB0, rep_pI0, e_valid_numbered.eq_1, Tryd.results75, h_valid_inOrder, Ok_valid_inOrder]
  refine loopu (fun (x : Nat × Int) => x.1 ≤ t.next.length ∧ numGo 0 1 t.next = numGo x.1 x.2 (t.next.drop x.1) ∧ 1 ≤ x.2 ∧ x.2 ≤ 1 + x.1 * 8)
    (fun x => [(3, pI x.2), (10, pI x.1)])
    (fun x => t.next.length - x.1) ?_ (s := (0, 1)) rfl (by simp)
  rintro ⟨i, c⟩ ⟨hi, hp, hc1, hc2⟩
  simp only at hi hp hc1 hc2
  simp -implicitDefEqProofs +contextual (maxSteps := 4000000) [-Int.not_le, -Int.not_lt, -Nat.not_le, -Nat.not_lt, -UInt32.toNat_or, -UInt32.toNat_xor, -UInt32.toNat_and, -UInt8.toNat_or, -UInt8.toNat_xor, -UInt8.toNat_and, -UInt32.toNat_add, -UInt8.toNat_add, -List.map_take, -List.map_drop, ← List.map_take, ← List.map_drop, -List.length_take, -List.length_drop, -List.map_replicate, rep_pY0, rep_pB0, rep_pI0, e_valid_numbered.eq_1, Tryd.results75, h_valid_inOrder, Ok_valid_inOrder]
  have hN : numV t = numGo 0 1 t.next := rfl
  have h5 := hC.n
  have h8 := hC.c
  refine ⟨fun a => ?_, fun a => ?_⟩
  · rw [List.drop_eq_getElem_cons a, numGo] at hp
    have hr := hC.r _ (List.getElem_mem a)
    have hb := ordR_bound (l := t.next[i]) (come := c)
    refine ⟨fun b => ⟨by omega, fun d => ?_, fun d => ⟨by unfold fits; omega, fun _ => ⟨i + 1, _, ⟨by omega, ?_, ?_, ?_⟩, by omega, rfl, by omega⟩⟩⟩, fun b => ?_⟩
    · rw [hN, hp, d]; simp
    · rw [hp, d, decide_eq_true b]; simp
    · have := (ordR_le d).1; omega
    · omega
    · rw [hN, hp, decide_eq_false b]; simp
  · rw [hN, hp, List.drop_eq_nil_of_le (by omega)]; rfl
def e_valid_column : Tab × Int → List PV := fun (t, c) => [pT t, pI c]
noncomputable def g_valid_column : List PV → Option (PV × List PV) := spec e_valid_column (fun (t, c) => small t ∧ 0 ≤ c ∧ ∀ x ∈ t.next, c < x.length) fun (t, c) => (tI (colL t c.toNat), [])
theorem e_valid_column_inj (a b : Tab × Int) (h : e_valid_column a = e_valid_column b) : a = b := by
  obtain ⟨⟨t1a, t1b, t1c, t1d⟩, c1⟩ := a; obtain ⟨⟨t2a, t2b, t2c, t2d⟩, c2⟩ := b; simp [e_valid_column, map_pI_inj, map_pB_inj, map_pY_inj, map_pBand_inj, map_sI_inj, str_inj, Int.natCast_inj, UInt8.toNat_inj, UInt32.toNat_inj] at h; first | exact h | (simp [h]; done) | exact UInt32.toNat_inj.1 (by omega) | exact UInt8.toNat_inj.1 (by omega) | (simp only [Prod.mk.injEq, ← UInt8.toNat_inj, ← UInt32.toNat_inj] at *; omega) | grind
theorem Ok_valid_column {t : Tab} {c : Int} {K : PV × List PV → Prop} : Ok (g_valid_column [pT t, pI c]) K = ((small t ∧ 0 ≤ c ∧ ∀ x ∈ t.next, c < x.length) ∧ K (tI (colL t c.toNat), [])) := Ok_spec e_valid_column_inj (t, c)
set_option maxHeartbeats 1000000 in
theorem impl_valid_column {tbl : Tbl} {G : Nat → Option (List PV)} (hT : Tb tbl G) : Impl Tryd.prog G 88 (g_valid_column) := by
  refine impl_p (E := En tbl G 24 k_valid_column []) (c := _) hT mixed Tryd.func88 rfl rfl (fun a => by simp [e_valid_column, pinned.eq_1, pinned.eq_2, PV.isMut.eq_1, PV.isMut.eq_2]) ?_
  rintro ⟨t, c⟩ hok
  refine ⟨by simp [e_valid_column], ?_⟩
  replace hok : small t ∧ 0 ≤ c ∧ ∀ x ∈ t.next, c < x.length := hok
  obtain ⟨hs, hc0, hr⟩ := hok
  unfold small at hs
  simp -implicitDefEqProofs +contextual (maxSteps := 4000000) [-Int.not_le, -Int.not_lt, -Nat.not_le, -Nat.not_lt, -UInt32.toNat_or, -UInt32.toNat_xor, -UInt32.toNat_and, -UInt8.toNat_or, -UInt8.toNat_xor, -UInt8.toNat_and, -UInt32.toNat_add, -UInt8.toNat_add, -List.map_take, -List.map_drop, ← List.map_take, ← List.map_drop, -List.length_take, -List.length_drop, -List.map_replicate, rep_pY0, rep_pB0, rep_pI0, e_valid_column.eq_1, Tryd.results88]
  refine loopu (fun i => i ≤ t.next.length)
    (fun i => [(5, tI ((colL t c.toNat).take i)), (11, pI i)])
    (fun i => t.next.length - i) ?_ (s := 0) rfl (by simp)
  intro i hi
  have hl : (colL t c.toNat).length = t.next.length := by unfold colL; simp
  simp -implicitDefEqProofs +contextual (maxSteps := 4000000) [-Int.not_le, -Int.not_lt, -Nat.not_le, -Nat.not_lt, -UInt32.toNat_or, -UInt32.toNat_xor, -UInt32.toNat_and, -UInt8.toNat_or, -UInt8.toNat_xor, -UInt8.toNat_and, -UInt32.toNat_add, -UInt8.toNat_add, -List.map_take, -List.map_drop, ← List.map_take, ← List.map_drop, -List.length_take, -List.length_drop, -List.map_replicate, rep_pY0, rep_pB0, rep_pI0, e_valid_column.eq_1, Tryd.results88]
  have htl : (List.take i (colL t c.toNat)).length ≤ t.next.length := by rw [List.length_take]; omega
  refine ⟨fun a => ⟨⟨hc0, hr _ (List.getElem_mem a)⟩, fun b => ⟨by omega, fun _ => ⟨by unfold fits; omega, fun _ => ⟨i + 1, by omega, by omega, ?_, by omega⟩⟩⟩⟩, fun a => ?_⟩
  · rw [take_succ' (by omega), List.map_append]
    congr 1
    have h2 : c.toNat < t.next[i].length := by omega
    simp [colL, h2]
  · rw [List.take_of_length_le (by omega)]
def e_valid_columns : Tab → List PV := fun t => [pT t]
noncomputable def g_valid_columns : List PV → Option (PV × List PV) := spec e_valid_columns (fun t => small t ∧ Cnt t) fun t => (pB (colV t), [])
theorem e_valid_columns_inj (a b : Tab) (h : e_valid_columns a = e_valid_columns b) : a = b := by
  obtain ⟨t1a, t1b, t1c, t1d⟩ := a; obtain ⟨t2a, t2b, t2c, t2d⟩ := b; simp [e_valid_columns, map_pI_inj, map_pB_inj, map_pY_inj, map_pBand_inj, map_sI_inj, str_inj, Int.natCast_inj, UInt8.toNat_inj, UInt32.toNat_inj] at h; first | exact h | (simp [h]; done) | exact UInt32.toNat_inj.1 (by omega) | exact UInt8.toNat_inj.1 (by omega) | (simp only [Prod.mk.injEq, ← UInt8.toNat_inj, ← UInt32.toNat_inj] at *; omega) | grind
theorem Ok_valid_columns {t : Tab} {K : PV × List PV → Prop} : Ok (g_valid_columns [pT t]) K = ((small t ∧ Cnt t) ∧ K (pB (colV t), [])) := Ok_spec e_valid_columns_inj t
set_option maxHeartbeats 1000000 in
theorem impl_valid_columns {tbl : Tbl} {G : Nat → Option (List PV)} (hT : Tb tbl G) (h_slices_Equal_int : tbl 87 = g_slices_Equal_int) (h_valid_column : tbl 88 = g_valid_column) : Impl Tryd.prog G 77 (g_valid_columns) := by
  refine impl_p (E := En tbl G 23 k_valid_columns []) (c := _) hT mixed Tryd.func77 rfl rfl (fun a => by simp [e_valid_columns, pinned.eq_1, pinned.eq_2, PV.isMut.eq_1, PV.isMut.eq_2]) ?_
  rintro t hok
  refine ⟨by simp [e_valid_columns], ?_⟩
  replace hok : small t ∧ Cnt t := hok
  obtain ⟨hok, hC⟩ := hok
  have hsm := hok
  unfold small at hok
  have hr := hC.r
  have h8 := hC.c
  have h5 := hC.n
  have hcl : ∀ c, (colL t c).length = t.next.length := fun c => by unfold colL; simp
  simp -implicitDefEqProofs +contextual (maxSteps := 4000000) [-Int.not_le, -Int.not_lt, -Nat.not_le, -Nat.not_lt, -UInt32.toNat_or, -UInt32.toNat_xor, -UInt32.toNat_and, -UInt8.toNat_or, -UInt8.toNat_xor, -UInt8.toNat_and, -UInt32.toNat_add, -UInt8.toNat_add, -List.map_take, -List.map_drop, ← List.map_take, ← List.map_drop, -List.length_take, -List.length_drop, -List.map_replicate, rep_pY0, rep_pB0, rep_pI0, e_valid_columns.eq_1, Tryd.results77, h_slices_Equal_int, Ok_slices_Equal_int, h_valid_column, Ok_valid_column]
  refine loopu (fun a => a ≤ t.classes.toNat ∧ ∀ a' b', a' < a → b' < a' → (!(colL t a' == colL t b')) = true)
    (fun a => [(7, pI a)])
    (fun a => t.classes.toNat - a) ?_ (s := 0) rfl (by simp)
  rintro a ⟨ha, hp⟩
  simp -implicitDefEqProofs +contextual (maxSteps := 4000000) [-Int.not_le, -Int.not_lt, -Nat.not_le, -Nat.not_lt, -UInt32.toNat_or, -UInt32.toNat_xor, -UInt32.toNat_and, -UInt8.toNat_or, -UInt8.toNat_xor, -UInt8.toNat_and, -UInt32.toNat_add, -UInt8.toNat_add, -List.map_take, -List.map_drop, ← List.map_take, ← List.map_drop, -List.length_take, -List.length_drop, -List.map_replicate, rep_pY0, rep_pB0, rep_pI0, e_valid_columns.eq_1, Tryd.results77, h_slices_Equal_int, Ok_slices_Equal_int, h_valid_column, Ok_valid_column]
  refine ⟨fun a1 => ?_, fun a1 => pairsV_iff.2 fun a' b' h1 h2 => hp a' b' (by omega) h2⟩
  refine loopu (fun b => b ≤ a ∧ ∀ b', b' < b → (!(colL t a == colL t b')) = true)
    (fun b => [(11, pI b)])
    (fun b => a - b) ?_ (s := 0) rfl (by simp)
  rintro b ⟨hb, hq⟩
  simp -implicitDefEqProofs +contextual (maxSteps := 4000000) [-Int.not_le, -Int.not_lt, -Nat.not_le, -Nat.not_lt, -UInt32.toNat_or, -UInt32.toNat_xor, -UInt32.toNat_and, -UInt8.toNat_or, -UInt8.toNat_xor, -UInt8.toNat_and, -UInt32.toNat_add, -UInt8.toNat_add, -List.map_take, -List.map_drop, ← List.map_take, ← List.map_drop, -List.length_take, -List.length_drop, -List.map_replicate, rep_pY0, rep_pB0, rep_pI0, e_valid_columns.eq_1, Tryd.results77, h_slices_Equal_int, Ok_slices_Equal_int, h_valid_column, Ok_valid_column, hsm]
  have hcv : ∀ {b}, b < a → colL t a = colL t b → colV t = false := fun {b} h e => pairsV_no (by omega) h (by rw [e]; simp)
  refine ⟨fun b1 => ⟨fun x hx => by have := hr x hx; omega, fun x hx => by have := hr x hx; omega, ⟨by rw [hcl]; omega, by rw [hcl]; omega⟩, by decide +kernel, fun e => hcv b1 e, fun e => ⟨by unfold fits; omega, fun _ => ⟨b + 1, ⟨by omega, fun b' hb' => ?_⟩, by omega, by omega⟩⟩⟩, fun b1 => ⟨by unfold fits; omega, fun _ => ⟨a + 1, ⟨by omega, fun a' b' ha' hb' => ?_⟩, by omega, by omega⟩⟩⟩
  · rcases (show b' < b ∨ b' = b by omega) with h | rfl
    · simpa using hq b' h
    · exact e
  · rcases (show a' < a ∨ a' = a by omega) with h | rfl
    · simpa using hp a' b' h hb'
    · simpa using hq b' (by omega)
def e_valid_least : Tab → List PV := fun t => [pT t]
noncomputable def g_valid_least : List PV → Option (PV × List PV) := spec e_valid_least (fun t => small t ∧ Cnt t ∧ nxtV t = true) fun t => (pB (lstV t), [])
theorem e_valid_least_inj (a b : Tab) (h : e_valid_least a = e_valid_least b) : a = b := by
  obtain ⟨t1a, t1b, t1c, t1d⟩ := a; obtain ⟨t2a, t2b, t2c, t2d⟩ := b; simp [e_valid_least, map_pI_inj, map_pB_inj, map_pY_inj, map_pBand_inj, map_sI_inj, str_inj, Int.natCast_inj, UInt8.toNat_inj, UInt32.toNat_inj] at h; first | exact h | (simp [h]; done) | exact UInt32.toNat_inj.1 (by omega) | exact UInt8.toNat_inj.1 (by omega) | (simp only [Prod.mk.injEq, ← UInt8.toNat_inj, ← UInt32.toNat_inj] at *; omega) | grind
theorem Ok_valid_least {t : Tab} {K : PV × List PV → Prop} : Ok (g_valid_least [pT t]) K = ((small t ∧ Cnt t ∧ nxtV t = true) ∧ K (pB (lstV t), [])) := Ok_spec e_valid_least_inj t
set_option maxHeartbeats 1000000 in
theorem impl_valid_least {tbl : Tbl} {G : Nat → Option (List PV)} (hT : Tb tbl G) (h_valid_alike : tbl 86 = g_valid_alike) : Impl Tryd.prog G 76 (g_valid_least) := by
  refine impl_p (E := En tbl G 22 k_valid_least []) (c := _) hT mixed Tryd.func76 rfl rfl (fun a => by simp [e_valid_least, pinned.eq_1, pinned.eq_2, PV.isMut.eq_1, PV.isMut.eq_2]) ?_
  rintro t hok
  refine ⟨by simp [e_valid_least], ?_⟩
  replace hok : small t ∧ Cnt t ∧ nxtV t = true := hok
  obtain ⟨hok, hC, hn⟩ := hok
  have hsm := hok
  unfold small at hok
  have h5 := hC.n
  simp -implicitDefEqProofs +contextual (maxSteps := 4000000) [-Int.not_le, -Int.not_lt, -Nat.not_le, -Nat.not_lt, -UInt32.toNat_or, -UInt32.toNat_xor, -UInt32.toNat_and, -UInt8.toNat_or, -UInt8.toNat_xor, -UInt8.toNat_and, -UInt32.toNat_add, -UInt8.toNat_add, -List.map_take, -List.map_drop, ← List.map_take, ← List.map_drop, -List.length_take, -List.length_drop, -List.map_replicate, rep_pY0, rep_pB0, rep_pI0, e_valid_least.eq_1, Tryd.results76, h_valid_alike, Ok_valid_alike]
  refine loopu (fun a => a ≤ t.next.length ∧ ∀ a' b', a' < a → b' < a' → (!alk t a' b') = true)
    (fun a => [(8, pI a)])
    (fun a => t.next.length - a) ?_ (s := 0) rfl (by simp)
  rintro a ⟨ha, hp⟩
  simp -implicitDefEqProofs +contextual (maxSteps := 4000000) [-Int.not_le, -Int.not_lt, -Nat.not_le, -Nat.not_lt, -UInt32.toNat_or, -UInt32.toNat_xor, -UInt32.toNat_and, -UInt8.toNat_or, -UInt8.toNat_xor, -UInt8.toNat_and, -UInt32.toNat_add, -UInt8.toNat_add, -List.map_take, -List.map_drop, ← List.map_take, ← List.map_drop, -List.length_take, -List.length_drop, -List.map_replicate, rep_pY0, rep_pB0, rep_pI0, e_valid_least.eq_1, Tryd.results76, h_valid_alike, Ok_valid_alike]
  refine ⟨fun a1 => ?_, fun a1 => pairsV_iff.2 fun a' b' h1 h2 => hp a' b' (by omega) h2⟩
  refine loopu (fun b => b ≤ a ∧ ∀ b', b' < b → (!alk t a b') = true)
    (fun b => [(12, pI b)])
    (fun b => a - b) ?_ (s := 0) rfl (by simp)
  rintro b ⟨hb, hq⟩
  simp -implicitDefEqProofs +contextual (maxSteps := 4000000) [-Int.not_le, -Int.not_lt, -Nat.not_le, -Nat.not_lt, -UInt32.toNat_or, -UInt32.toNat_xor, -UInt32.toNat_and, -UInt8.toNat_or, -UInt8.toNat_xor, -UInt8.toNat_and, -UInt32.toNat_add, -UInt8.toNat_add, -List.map_take, -List.map_drop, ← List.map_take, ← List.map_drop, -List.length_take, -List.length_drop, -List.map_replicate, rep_pY0, rep_pB0, rep_pI0, e_valid_least.eq_1, Tryd.results76, h_valid_alike, Ok_valid_alike, hsm, hC, hn]
  refine ⟨fun b1 => ⟨⟨by omega, by omega⟩, fun e => pairsV_no a1 b1 (by rw [e]; rfl), fun e => ⟨by unfold fits; omega, fun _ => ⟨b + 1, ⟨by omega, fun b' hb' => ?_⟩, by omega, by omega⟩⟩⟩, fun b1 => ⟨by unfold fits; omega, fun _ => ⟨a + 1, ⟨by omega, fun a' b' ha' hb' => ?_⟩, by omega, by omega⟩⟩⟩
  · rcases (show b' < b ∨ b' = b by omega) with h | rfl
    · simpa using hq b' h
    · exact e
  · rcases (show a' < a ∨ a' = a by omega) with h | rfl
    · simpa using hp a' b' h hb'
    · simpa using hq b' (by omega)
def e_valid_Table : Tab → List PV := fun t => [pT t]
noncomputable def g_valid_Table : List PV → Option (PV × List PV) := spec e_valid_Table (fun t => wide t) fun t => (pI (validE t), [])
theorem e_valid_Table_inj (a b : Tab) (h : e_valid_Table a = e_valid_Table b) : a = b := by
  obtain ⟨t1a, t1b, t1c, t1d⟩ := a; obtain ⟨t2a, t2b, t2c, t2d⟩ := b; simp [e_valid_Table, map_pI_inj, map_pB_inj, map_pY_inj, map_pBand_inj, map_sI_inj, str_inj, Int.natCast_inj, UInt8.toNat_inj, UInt32.toNat_inj] at h; first | exact h | (simp [h]; done) | exact UInt32.toNat_inj.1 (by omega) | exact UInt8.toNat_inj.1 (by omega) | (simp only [Prod.mk.injEq, ← UInt8.toNat_inj, ← UInt32.toNat_inj] at *; omega) | grind
theorem Ok_valid_Table {t : Tab} {K : PV × List PV → Prop} : Ok (g_valid_Table [pT t]) K = ((wide t) ∧ K (pI (validE t), [])) := Ok_spec e_valid_Table_inj t
set_option maxHeartbeats 1000000 in
theorem impl_valid_Table {tbl : Tbl} {G : Nat → Option (List PV)} (hT : Tb tbl G) (h_valid_counts : tbl 71 = g_valid_counts) (h_valid_bands : tbl 72 = g_valid_bands) (h_valid_classes : tbl 73 = g_valid_classes) (h_valid_nexts : tbl 74 = g_valid_nexts) (h_valid_numbered : tbl 75 = g_valid_numbered) (h_valid_least : tbl 76 = g_valid_least) (h_valid_columns : tbl 77 = g_valid_columns) : Impl Tryd.prog G 66 (g_valid_Table) := by
  refine impl_p (E := En tbl G 31 k_valid_Table []) (c := _) hT mixed Tryd.func66 rfl rfl (fun a => by simp [e_valid_Table, pinned.eq_1, pinned.eq_2, PV.isMut.eq_1, PV.isMut.eq_2]) ?_
  rintro t hok
  refine ⟨by simp [e_valid_Table], ?_⟩
  replace hok : wide t := hok
  have hwd := hok
  cases h1 : cntV t
  · have e : validE t = 24 := by simp [validE, h1]
    simp -implicitDefEqProofs +contextual (maxSteps := 4000000) [-Int.not_le, -Int.not_lt, -Nat.not_le, -Nat.not_lt, -UInt32.toNat_or, -UInt32.toNat_xor, -UInt32.toNat_and, -UInt8.toNat_or, -UInt8.toNat_xor, -UInt8.toNat_and, -UInt32.toNat_add, -UInt8.toNat_add, -List.map_take, -List.map_drop, ← List.map_take, ← List.map_drop, -List.length_take, -List.length_drop, -List.map_replicate, rep_pY0, rep_pB0, rep_pI0, e_valid_Table.eq_1, Tryd.results66, h_valid_counts, Ok_valid_counts, h_valid_bands, Ok_valid_bands, h_valid_classes, Ok_valid_classes, h_valid_nexts, Ok_valid_nexts, h_valid_numbered, Ok_valid_numbered, h_valid_least, Ok_valid_least, h_valid_columns, Ok_valid_columns, hwd, h1, e]
  have hC := cntV_iff.1 h1
  have hsm := hC.small
  cases h2 : bndV t.bands
  · have e : validE t = 26 := by simp [validE, h1, h2]
    simp -implicitDefEqProofs +contextual (maxSteps := 4000000) [-Int.not_le, -Int.not_lt, -Nat.not_le, -Nat.not_lt, -UInt32.toNat_or, -UInt32.toNat_xor, -UInt32.toNat_and, -UInt8.toNat_or, -UInt8.toNat_xor, -UInt8.toNat_and, -UInt32.toNat_add, -UInt8.toNat_add, -List.map_take, -List.map_drop, ← List.map_take, ← List.map_drop, -List.length_take, -List.length_drop, -List.map_replicate, rep_pY0, rep_pB0, rep_pI0, e_valid_Table.eq_1, Tryd.results66, h_valid_counts, Ok_valid_counts, h_valid_bands, Ok_valid_bands, h_valid_classes, Ok_valid_classes, h_valid_nexts, Ok_valid_nexts, h_valid_numbered, Ok_valid_numbered, h_valid_least, Ok_valid_least, h_valid_columns, Ok_valid_columns, hwd, hsm, h1, h2, e]
  cases h3 : clsV t
  · have e : validE t = 27 := by simp [validE, h1, h2, h3]
    simp -implicitDefEqProofs +contextual (maxSteps := 4000000) [-Int.not_le, -Int.not_lt, -Nat.not_le, -Nat.not_lt, -UInt32.toNat_or, -UInt32.toNat_xor, -UInt32.toNat_and, -UInt8.toNat_or, -UInt8.toNat_xor, -UInt8.toNat_and, -UInt32.toNat_add, -UInt8.toNat_add, -List.map_take, -List.map_drop, ← List.map_take, ← List.map_drop, -List.length_take, -List.length_drop, -List.map_replicate, rep_pY0, rep_pB0, rep_pI0, e_valid_Table.eq_1, Tryd.results66, h_valid_counts, Ok_valid_counts, h_valid_bands, Ok_valid_bands, h_valid_classes, Ok_valid_classes, h_valid_nexts, Ok_valid_nexts, h_valid_numbered, Ok_valid_numbered, h_valid_least, Ok_valid_least, h_valid_columns, Ok_valid_columns, hwd, hsm, h1, h2, h3, e]
  cases h4 : nxtV t
  · have e : validE t = 28 := by simp [validE, h1, h2, h3, h4]
    simp -implicitDefEqProofs +contextual (maxSteps := 4000000) [-Int.not_le, -Int.not_lt, -Nat.not_le, -Nat.not_lt, -UInt32.toNat_or, -UInt32.toNat_xor, -UInt32.toNat_and, -UInt8.toNat_or, -UInt8.toNat_xor, -UInt8.toNat_and, -UInt32.toNat_add, -UInt8.toNat_add, -List.map_take, -List.map_drop, ← List.map_take, ← List.map_drop, -List.length_take, -List.length_drop, -List.map_replicate, rep_pY0, rep_pB0, rep_pI0, e_valid_Table.eq_1, Tryd.results66, h_valid_counts, Ok_valid_counts, h_valid_bands, Ok_valid_bands, h_valid_classes, Ok_valid_classes, h_valid_nexts, Ok_valid_nexts, h_valid_numbered, Ok_valid_numbered, h_valid_least, Ok_valid_least, h_valid_columns, Ok_valid_columns, hwd, hsm, h1, h2, h3, h4, e]
  cases h5 : numV t
  · have e : validE t = 29 := by simp [validE, h1, h2, h3, h4, h5]
    simp -implicitDefEqProofs +contextual (maxSteps := 4000000) [-Int.not_le, -Int.not_lt, -Nat.not_le, -Nat.not_lt, -UInt32.toNat_or, -UInt32.toNat_xor, -UInt32.toNat_and, -UInt8.toNat_or, -UInt8.toNat_xor, -UInt8.toNat_and, -UInt32.toNat_add, -UInt8.toNat_add, -List.map_take, -List.map_drop, ← List.map_take, ← List.map_drop, -List.length_take, -List.length_drop, -List.map_replicate, rep_pY0, rep_pB0, rep_pI0, e_valid_Table.eq_1, Tryd.results66, h_valid_counts, Ok_valid_counts, h_valid_bands, Ok_valid_bands, h_valid_classes, Ok_valid_classes, h_valid_nexts, Ok_valid_nexts, h_valid_numbered, Ok_valid_numbered, h_valid_least, Ok_valid_least, h_valid_columns, Ok_valid_columns, hwd, hsm, hC, h1, h2, h3, h4, h5, e]
  cases h6 : lstV t
  · have e : validE t = 30 := by simp [validE, h1, h2, h3, h4, h5, h6]
    simp -implicitDefEqProofs +contextual (maxSteps := 4000000) [-Int.not_le, -Int.not_lt, -Nat.not_le, -Nat.not_lt, -UInt32.toNat_or, -UInt32.toNat_xor, -UInt32.toNat_and, -UInt8.toNat_or, -UInt8.toNat_xor, -UInt8.toNat_and, -UInt32.toNat_add, -UInt8.toNat_add, -List.map_take, -List.map_drop, ← List.map_take, ← List.map_drop, -List.length_take, -List.length_drop, -List.map_replicate, rep_pY0, rep_pB0, rep_pI0, e_valid_Table.eq_1, Tryd.results66, h_valid_counts, Ok_valid_counts, h_valid_bands, Ok_valid_bands, h_valid_classes, Ok_valid_classes, h_valid_nexts, Ok_valid_nexts, h_valid_numbered, Ok_valid_numbered, h_valid_least, Ok_valid_least, h_valid_columns, Ok_valid_columns, hwd, hsm, hC, h1, h2, h3, h4, h5, h6, e]
  cases h7 : colV t
  · have e : validE t = 31 := by simp [validE, h1, h2, h3, h4, h5, h6, h7]
    simp -implicitDefEqProofs +contextual (maxSteps := 4000000) [-Int.not_le, -Int.not_lt, -Nat.not_le, -Nat.not_lt, -UInt32.toNat_or, -UInt32.toNat_xor, -UInt32.toNat_and, -UInt8.toNat_or, -UInt8.toNat_xor, -UInt8.toNat_and, -UInt32.toNat_add, -UInt8.toNat_add, -List.map_take, -List.map_drop, ← List.map_take, ← List.map_drop, -List.length_take, -List.length_drop, -List.map_replicate, rep_pY0, rep_pB0, rep_pI0, e_valid_Table.eq_1, Tryd.results66, h_valid_counts, Ok_valid_counts, h_valid_bands, Ok_valid_bands, h_valid_classes, Ok_valid_classes, h_valid_nexts, Ok_valid_nexts, h_valid_numbered, Ok_valid_numbered, h_valid_least, Ok_valid_least, h_valid_columns, Ok_valid_columns, hwd, hsm, hC, h1, h2, h3, h4, h5, h6, h7, e]
  have e : validE t = 0 := by simp [validE, h1, h2, h3, h4, h5, h6, h7]
  simp -implicitDefEqProofs +contextual (maxSteps := 4000000) [-Int.not_le, -Int.not_lt, -Nat.not_le, -Nat.not_lt, -UInt32.toNat_or, -UInt32.toNat_xor, -UInt32.toNat_and, -UInt8.toNat_or, -UInt8.toNat_xor, -UInt8.toNat_and, -UInt32.toNat_add, -UInt8.toNat_add, -List.map_take, -List.map_drop, ← List.map_take, ← List.map_drop, -List.length_take, -List.length_drop, -List.map_replicate, rep_pY0, rep_pB0, rep_pI0, e_valid_Table.eq_1, Tryd.results66, h_valid_counts, Ok_valid_counts, h_valid_bands, Ok_valid_bands, h_valid_classes, Ok_valid_classes, h_valid_nexts, Ok_valid_nexts, h_valid_numbered, Ok_valid_numbered, h_valid_least, Ok_valid_least, h_valid_columns, Ok_valid_columns, hwd, hsm, hC, h1, h2, h3, h4, h5, h6, h7, e]
theorem alkV_no {t : Tab} {a b : Int} (h : cntV t = false ∨ nxtV t = false ∨ inR a 0 (t.next.length - 1) = false ∨ inR b 0 (t.next.length - 1) = false) : alkV t a b = false := by
  unfold alkV; rcases h with h | h | h | h <;> simp [h]
end Go.V
