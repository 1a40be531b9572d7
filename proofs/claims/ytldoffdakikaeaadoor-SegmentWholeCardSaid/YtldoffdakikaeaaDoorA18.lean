/- A part of the proof of SegmentWhole: contracts of functions, or what these lean on. No condition. -/
import Derived.Test.YtldoffdakikaeaaDoorA1
import Derived.Test.YtldoffdakikaeaaDoorA7
import Derived.Test.YtldoffdakikaeaaDoorA3
import Derived.Test.YtldoffdakikaeaaDoorP12
import Derived.Test.YtldoffdakikaeaaDoorVM4
namespace Go.V
open Go.Proofs
set_option maxRecDepth 8000
set_option linter.unusedSimpArgs false
set_option linter.unusedVariables false
theorem wrap32 {n : Int} (h : -2147483648 ≤ n ∧ n ≤ 2147483647) : IntKind.i32.wrap n = n := by
  simp [IntKind.wrap, IntKind.bits, IntKind.signed]; omega
def sgnV (v : Int) : Int := if v < 0 ∨ 1114111 < v then 0 else v
def e_scalar_sign : Int → List PV := fun v => [pI v]
noncomputable def g_scalar_sign : List PV → Option (PV × List PV) := spec e_scalar_sign (fun v => True) fun v => (.tup [.prim (.int .i32 (sgnV v)), pB (isSc v)], [])
theorem e_scalar_sign_inj (a b : Int) (h : e_scalar_sign a = e_scalar_sign b) : a = b := by
  simp [e_scalar_sign, map_pI_inj, map_pB_inj, map_pY_inj, map_pBand_inj, map_sI_inj, str_inj, Int.natCast_inj, UInt8.toNat_inj, UInt32.toNat_inj] at h; first | exact h | (simp [h]; done) | exact UInt32.toNat_inj.1 (by omega) | exact UInt8.toNat_inj.1 (by omega) | (simp only [Prod.mk.injEq, ← UInt8.toNat_inj, ← UInt32.toNat_inj] at *; omega) | grind
theorem Ok_scalar_sign {v : Int} {K : PV × List PV → Prop} : Ok (g_scalar_sign [pI v]) K = ((True) ∧ K (.tup [.prim (.int .i32 (sgnV v)), pB (isSc v)], [])) := Ok_spec e_scalar_sign_inj v
set_option maxHeartbeats 1000000 in
theorem impl_scalar_sign {tbl : Tbl} {G : Nat → Option (List PV)} (hT : Tb tbl G) : Impl Tryd.prog G 63 (g_scalar_sign) := by
  refine impl_p (E := En tbl G 20 k_scalar_sign []) (c := _) hT mixed Tryd.func63 rfl rfl (fun a => by simp [e_scalar_sign, pinned.eq_1, pinned.eq_2, PV.isMut.eq_1, PV.isMut.eq_2]) ?_
  rintro v hok
  refine ⟨by simp [e_scalar_sign], ?_⟩
  by_cases h1 : v < 0
  · have e1 : sgnV v = 0 := by unfold sgnV; rw [if_pos (.inl h1)]
    have e2 : isSc v = false := isSc_not.2 (by omega)
    simp -implicitDefEqProofs +contextual (maxSteps := 4000000) [-Int.not_le, -Int.not_lt, -Nat.not_le, -Nat.not_lt, -UInt32.toNat_or, -UInt32.toNat_xor, -UInt32.toNat_and, -UInt8.toNat_or, -UInt8.toNat_xor, -UInt8.toNat_and, -UInt32.toNat_add, -UInt8.toNat_add, -List.map_take, -List.map_drop, ← List.map_take, ← List.map_drop, -List.length_take, -List.length_drop, -List.map_replicate, rep_pY0, rep_pB0, rep_pI0, e_scalar_sign.eq_1, Tryd.results63, h1, e1, e2]
  by_cases h2 : 1114111 < v
  · have e1 : sgnV v = 0 := by unfold sgnV; rw [if_pos (.inr h2)]
    have e2 : isSc v = false := isSc_not.2 (by omega)
    simp -implicitDefEqProofs +contextual (maxSteps := 4000000) [-Int.not_le, -Int.not_lt, -Nat.not_le, -Nat.not_lt, -UInt32.toNat_or, -UInt32.toNat_xor, -UInt32.toNat_and, -UInt8.toNat_or, -UInt8.toNat_xor, -UInt8.toNat_and, -UInt32.toNat_add, -UInt8.toNat_add, -List.map_take, -List.map_drop, ← List.map_take, ← List.map_drop, -List.length_take, -List.length_drop, -List.map_replicate, rep_pY0, rep_pB0, rep_pI0, e_scalar_sign.eq_1, Tryd.results63, h1, h2, e1, e2]
  have e1 : sgnV v = v := by unfold sgnV; rw [if_neg (by omega)]
  have w := wrap32 (n := v) (by omega)
  have e2 : isSc v = (decide (v ≤ 55295) || decide (57344 ≤ v)) := by
    rw [Bool.eq_iff_iff, isSc_iff]; simp only [Bool.or_eq_true, decide_eq_true_eq]; omega
  simp -implicitDefEqProofs +contextual (maxSteps := 4000000) [-Int.not_le, -Int.not_lt, -Nat.not_le, -Nat.not_lt, -UInt32.toNat_or, -UInt32.toNat_xor, -UInt32.toNat_and, -UInt8.toNat_or, -UInt8.toNat_xor, -UInt8.toNat_and, -UInt32.toNat_add, -UInt8.toNat_add, -List.map_take, -List.map_drop, ← List.map_take, ← List.map_drop, -List.length_take, -List.length_drop, -List.map_replicate, rep_pY0, rep_pB0, rep_pI0, e_scalar_sign.eq_1, Tryd.results63, h1, h2, e1, w, e2]
def e_scalar_Is : Int → List PV := fun v => [pI v]
noncomputable def g_scalar_Is : List PV → Option (PV × List PV) := spec e_scalar_Is (fun v => True) fun v => (pB (isSc v), [])
theorem e_scalar_Is_inj (a b : Int) (h : e_scalar_Is a = e_scalar_Is b) : a = b := by
  simp [e_scalar_Is, map_pI_inj, map_pB_inj, map_pY_inj, map_pBand_inj, map_sI_inj, str_inj, Int.natCast_inj, UInt8.toNat_inj, UInt32.toNat_inj] at h; first | exact h | (simp [h]; done) | exact UInt32.toNat_inj.1 (by omega) | exact UInt8.toNat_inj.1 (by omega) | (simp only [Prod.mk.injEq, ← UInt8.toNat_inj, ← UInt32.toNat_inj] at *; omega) | grind
theorem Ok_scalar_Is {v : Int} {K : PV × List PV → Prop} : Ok (g_scalar_Is [pI v]) K = ((True) ∧ K (pB (isSc v), [])) := Ok_spec e_scalar_Is_inj v
set_option maxHeartbeats 1000000 in
theorem impl_scalar_Is {tbl : Tbl} {G : Nat → Option (List PV)} (hT : Tb tbl G) (h_scalar_sign : tbl 63 = g_scalar_sign) : Impl Tryd.prog G 46 (g_scalar_Is) := by
  refine impl_p (E := En tbl G 11 k_scalar_Is []) (c := _) hT mixed Tryd.func46 rfl rfl (fun a => by simp [e_scalar_Is, pinned.eq_1, pinned.eq_2, PV.isMut.eq_1, PV.isMut.eq_2]) ?_
  rintro v hok
  refine ⟨by simp [e_scalar_Is], ?_⟩
  simp -implicitDefEqProofs +contextual (maxSteps := 4000000) [-Int.not_le, -Int.not_lt, -Nat.not_le, -Nat.not_lt, -UInt32.toNat_or, -UInt32.toNat_xor, -UInt32.toNat_and, -UInt8.toNat_or, -UInt8.toNat_xor, -UInt8.toNat_and, -UInt32.toNat_add, -UInt8.toNat_add, -List.map_take, -List.map_drop, ← List.map_take, ← List.map_drop, -List.length_take, -List.length_drop, -List.map_replicate, rep_pY0, rep_pB0, rep_pI0, e_scalar_Is.eq_1, Tryd.results46, h_scalar_sign, Ok_scalar_sign]
def e_ref01_Is : Int → List PV := fun v => [pI v]
noncomputable def g_ref01_Is : List PV → Option (PV × List PV) := spec e_ref01_Is (fun v => True) fun v => (pB (isSc v), [])
theorem e_ref01_Is_inj (a b : Int) (h : e_ref01_Is a = e_ref01_Is b) : a = b := by
  simp [e_ref01_Is, map_pI_inj, map_pB_inj, map_pY_inj, map_pBand_inj, map_sI_inj, str_inj, Int.natCast_inj, UInt8.toNat_inj, UInt32.toNat_inj] at h; first | exact h | (simp [h]; done) | exact UInt32.toNat_inj.1 (by omega) | exact UInt8.toNat_inj.1 (by omega) | (simp only [Prod.mk.injEq, ← UInt8.toNat_inj, ← UInt32.toNat_inj] at *; omega) | grind
theorem Ok_ref01_Is {v : Int} {K : PV × List PV → Prop} : Ok (g_ref01_Is [pI v]) K = ((True) ∧ K (pB (isSc v), [])) := Ok_spec e_ref01_Is_inj v
set_option maxHeartbeats 1000000 in
theorem impl_ref01_Is {tbl : Tbl} {G : Nat → Option (List PV)} (hT : Tb tbl G) : Impl Tryd.prog G 50 (g_ref01_Is) := by
  refine impl_p (E := En tbl G 17 k_ref01_Is []) (c := _) hT mixed Tryd.func50 rfl rfl (fun a => by simp [e_ref01_Is, pinned.eq_1, pinned.eq_2, PV.isMut.eq_1, PV.isMut.eq_2]) ?_
  rintro v hok
  refine ⟨by simp [e_ref01_Is], ?_⟩
  by_cases a1 : 0 ≤ v
  · by_cases a2 : v < 55296
    · have e : isSc v = true := isSc_iff.2 (by omega)
      have a3 : ¬ 57344 ≤ v := by omega
      simp -implicitDefEqProofs +contextual (maxSteps := 4000000) [-Int.not_le, -Int.not_lt, -Nat.not_le, -Nat.not_lt, -UInt32.toNat_or, -UInt32.toNat_xor, -UInt32.toNat_and, -UInt8.toNat_or, -UInt8.toNat_xor, -UInt8.toNat_and, -UInt32.toNat_add, -UInt8.toNat_add, -List.map_take, -List.map_drop, ← List.map_take, ← List.map_drop, -List.length_take, -List.length_drop, -List.map_replicate, rep_pY0, rep_pB0, rep_pI0, e_ref01_Is.eq_1, Tryd.results50, a1, a2, a3, e]
    · by_cases a3 : 57344 ≤ v
      · by_cases a4 : v ≤ 1114111
        · have e : isSc v = true := isSc_iff.2 (by omega)
          simp -implicitDefEqProofs +contextual (maxSteps := 4000000) [-Int.not_le, -Int.not_lt, -Nat.not_le, -Nat.not_lt, -UInt32.toNat_or, -UInt32.toNat_xor, -UInt32.toNat_and, -UInt8.toNat_or, -UInt8.toNat_xor, -UInt8.toNat_and, -UInt32.toNat_add, -UInt8.toNat_add, -List.map_take, -List.map_drop, ← List.map_take, ← List.map_drop, -List.length_take, -List.length_drop, -List.map_replicate, rep_pY0, rep_pB0, rep_pI0, e_ref01_Is.eq_1, Tryd.results50, a1, a2, a3, a4, e]
        · have e : isSc v = false := isSc_not.2 (by omega)
          simp -implicitDefEqProofs +contextual (maxSteps := 4000000) [-Int.not_le, -Int.not_lt, -Nat.not_le, -Nat.not_lt, -UInt32.toNat_or, -UInt32.toNat_xor, -UInt32.toNat_and, -UInt8.toNat_or, -UInt8.toNat_xor, -UInt8.toNat_and, -UInt32.toNat_add, -UInt8.toNat_add, -List.map_take, -List.map_drop, ← List.map_take, ← List.map_drop, -List.length_take, -List.length_drop, -List.map_replicate, rep_pY0, rep_pB0, rep_pI0, e_ref01_Is.eq_1, Tryd.results50, a1, a2, a3, a4, e]
      · have e : isSc v = false := isSc_not.2 (by omega)
        simp -implicitDefEqProofs +contextual (maxSteps := 4000000) [-Int.not_le, -Int.not_lt, -Nat.not_le, -Nat.not_lt, -UInt32.toNat_or, -UInt32.toNat_xor, -UInt32.toNat_and, -UInt8.toNat_or, -UInt8.toNat_xor, -UInt8.toNat_and, -UInt32.toNat_add, -UInt8.toNat_add, -List.map_take, -List.map_drop, ← List.map_take, ← List.map_drop, -List.length_take, -List.length_drop, -List.map_replicate, rep_pY0, rep_pB0, rep_pI0, e_ref01_Is.eq_1, Tryd.results50, a1, a2, a3, e]
  · have e : isSc v = false := isSc_not.2 (by omega)
    have a3 : ¬ 57344 ≤ v := by omega
    simp -implicitDefEqProofs +contextual (maxSteps := 4000000) [-Int.not_le, -Int.not_lt, -Nat.not_le, -Nat.not_lt, -UInt32.toNat_or, -UInt32.toNat_xor, -UInt32.toNat_and, -UInt8.toNat_or, -UInt8.toNat_xor, -UInt8.toNat_and, -UInt32.toNat_add, -UInt8.toNat_add, -List.map_take, -List.map_drop, ← List.map_take, ← List.map_drop, -List.length_take, -List.length_drop, -List.map_replicate, rep_pY0, rep_pB0, rep_pI0, e_ref01_Is.eq_1, Tryd.results50, a1, a3, e]
def e_valid_between : Int × Int × Int → List PV := fun (v, l, m) => [pI v, pI l, pI m]
noncomputable def g_valid_between : List PV → Option (PV × List PV) := spec e_valid_between (fun (v, l, m) => True) fun (v, l, m) => (pB (inR v l m), [])
theorem e_valid_between_inj (a b : Int × Int × Int) (h : e_valid_between a = e_valid_between b) : a = b := by
  obtain ⟨v1, l1, m1⟩ := a; obtain ⟨v2, l2, m2⟩ := b; simp [e_valid_between, map_pI_inj, map_pB_inj, map_pY_inj, map_pBand_inj, map_sI_inj, str_inj, Int.natCast_inj, UInt8.toNat_inj, UInt32.toNat_inj] at h; first | exact h | (simp [h]; done) | exact UInt32.toNat_inj.1 (by omega) | exact UInt8.toNat_inj.1 (by omega) | (simp only [Prod.mk.injEq, ← UInt8.toNat_inj, ← UInt32.toNat_inj] at *; omega) | grind
theorem Ok_valid_between {v : Int} {l : Int} {m : Int} {K : PV × List PV → Prop} : Ok (g_valid_between [pI v, pI l, pI m]) K = ((True) ∧ K (pB (inR v l m), [])) := Ok_spec e_valid_between_inj (v, l, m)
set_option maxHeartbeats 1000000 in
theorem impl_valid_between {tbl : Tbl} {G : Nat → Option (List PV)} (hT : Tb tbl G) : Impl Tryd.prog G 79 (g_valid_between) := by
  refine impl_p (E := En tbl G 15 k_valid_between []) (c := _) hT mixed Tryd.func79 rfl rfl (fun a => by simp [e_valid_between, pinned.eq_1, pinned.eq_2, PV.isMut.eq_1, PV.isMut.eq_2]) ?_
  rintro ⟨v, l, m⟩ hok
  refine ⟨by simp [e_valid_between], ?_⟩
  simp -implicitDefEqProofs +contextual (maxSteps := 4000000) [-Int.not_le, -Int.not_lt, -Nat.not_le, -Nat.not_lt, -UInt32.toNat_or, -UInt32.toNat_xor, -UInt32.toNat_and, -UInt8.toNat_or, -UInt8.toNat_xor, -UInt8.toNat_and, -UInt32.toNat_add, -UInt8.toNat_add, -List.map_take, -List.map_drop, ← List.map_take, ← List.map_drop, -List.length_take, -List.length_drop, -List.map_replicate, rep_pY0, rep_pB0, rep_pI0, e_valid_between.eq_1, Tryd.results79, inR.eq_1]
def e_valid_inOrder : (List Int) × Int → List PV := fun (l, come) => [sI l, pI come]
noncomputable def g_valid_inOrder : List PV → Option (PV × List PV) := spec e_valid_inOrder (fun (l, come) => l.length < 2 ^ 40 ∧ -1073741824 ≤ come ∧ come ≤ 1073741824) fun (l, come) => (.tup [pI (ordR come l).1, pB (ordR come l).2], [])
theorem e_valid_inOrder_inj (a b : (List Int) × Int) (h : e_valid_inOrder a = e_valid_inOrder b) : a = b := by
  obtain ⟨l1, come1⟩ := a; obtain ⟨l2, come2⟩ := b; simp [e_valid_inOrder, map_pI_inj, map_pB_inj, map_pY_inj, map_pBand_inj, map_sI_inj, str_inj, Int.natCast_inj, UInt8.toNat_inj, UInt32.toNat_inj] at h; first | exact h | (simp [h]; done) | exact UInt32.toNat_inj.1 (by omega) | exact UInt8.toNat_inj.1 (by omega) | (simp only [Prod.mk.injEq, ← UInt8.toNat_inj, ← UInt32.toNat_inj] at *; omega) | grind
theorem Ok_valid_inOrder {l : List Int} {come : Int} {K : PV × List PV → Prop} : Ok (g_valid_inOrder [sI l, pI come]) K = ((l.length < 2 ^ 40 ∧ -1073741824 ≤ come ∧ come ≤ 1073741824) ∧ K (.tup [pI (ordR come l).1, pB (ordR come l).2], [])) := Ok_spec e_valid_inOrder_inj (l, come)
set_option maxHeartbeats 1000000 in
theorem impl_valid_inOrder {tbl : Tbl} {G : Nat → Option (List PV)} (hT : Tb tbl G) : Impl Tryd.prog G 81 (g_valid_inOrder) := by
  refine impl_p (E := En tbl G 29 k_valid_inOrder []) (c := _) hT mixed Tryd.func81 rfl rfl (fun a => by simp [e_valid_inOrder, pinned.eq_1, pinned.eq_2, PV.isMut.eq_1, PV.isMut.eq_2]) ?_
  rintro ⟨l, come⟩ hok
  refine ⟨by simp [e_valid_inOrder], ?_⟩
  replace hok : l.length < 2 ^ 40 ∧ -1073741824 ≤ come ∧ come ≤ 1073741824 := hok
  simp -implicitDefEqProofs +contextual (maxSteps := 4000000) [-Int.not_le, -Int.not_lt, -Nat.not_le, -Nat.not_lt, -UInt32.toNat_or, -UInt32.toNat_xor, -UInt32.toNat_and, -UInt8.toNat_or, -UInt8.toNat_xor, -UInt8.toNat_and, -UInt32.toNat_add, -UInt8.toNat_add, -List.map_take, -List.map_drop, ← List.map_take, ← List.map_drop, -List.length_take, -List.length_drop, -List.map_replicate, rep_pY0, rep_pB0, rep_pI0, e_valid_inOrder.eq_1, Tryd.results81]
  refine loopu (fun (x : Nat × Int) => x.1 ≤ l.length ∧ ordR come (l.take x.1) = (x.2, true) ∧ come ≤ x.2 ∧ x.2 ≤ come + x.1)
    (fun x => [(1, pI x.2), (10, pI x.1)])
    (fun x => l.length - x.1) ?_ (s := (0, come)) rfl ⟨Nat.zero_le _, rfl, by omega, by simp⟩
  rintro ⟨i, c⟩ ⟨hi, hp, hc1, hc2⟩
  simp only at hi hp hc1 hc2
  simp -implicitDefEqProofs +contextual (maxSteps := 4000000) [-Int.not_le, -Int.not_lt, -Nat.not_le, -Nat.not_lt, -UInt32.toNat_or, -UInt32.toNat_xor, -UInt32.toNat_and, -UInt8.toNat_or, -UInt8.toNat_xor, -UInt8.toNat_and, -UInt32.toNat_add, -UInt8.toNat_add, -List.map_take, -List.map_drop, ← List.map_take, ← List.map_drop, -List.length_take, -List.length_drop, -List.map_replicate, rep_pY0, rep_pB0, rep_pI0, e_valid_inOrder.eq_1, Tryd.results81]
  refine ⟨fun a => ⟨fun b => ⟨fun c1 => ?_, fun c1 => ⟨fun e => ⟨by unfold fits; omega, fun _ => ⟨by unfold fits; omega, fun _ => ⟨i + 1, c + 1, ⟨by omega, ?_, by omega, by omega⟩, by omega, by omega, by omega⟩⟩⟩, fun e => ⟨by unfold fits; omega, fun _ => ⟨i + 1, c, ⟨by omega, ?_, by omega, by omega⟩, by omega, by omega, by omega⟩⟩⟩⟩, fun b => ?_⟩, fun a => ?_⟩
  · rw [ordR_stop a hp (.inr c1)]; exact ⟨rfl, rfl⟩
  · rw [ordR_step a hp b c1, if_pos e]
  · rw [ordR_step a hp b c1, if_neg e]
  · rw [ordR_stop a hp (.inl b)]; exact ⟨rfl, rfl⟩
  · rw [ordR_all a hp]; exact ⟨rfl, rfl⟩
def wide (t : Tab) : Prop := (t.bands.length < 2 ^ 63 ∧ t.next.length < 2 ^ 63 ∧ t.brk.length < 2 ^ 63) ∧ ∀ x ∈ t.next, x.length < 2 ^ 63
theorem wide_of {t : Tab} (h : small t) : wide t := ⟨⟨by have := h.1; omega, by have := h.1; omega, by have := h.1; omega⟩, fun x hx => by have := h.2 x hx; omega⟩
theorem Cnt.small {t : Tab} (h : Cnt t) : small t := by
  have h1 := h.n
  have h2 := h.b
  have h3 := h.k
  have h4 := h.c
  exact ⟨⟨by omega, by omega, by omega⟩, fun x hx => by have := h.r x hx; omega⟩
def boxT (t : Tab) : PV := .ptr false [pI t.classes, sBand t.bands, sII t.next, sB t.brk]
def e_valid_shaped_1 : (List Int) × Tab → List PV := fun (l, t) => [sI l, .ptr false [pI t.classes, sBand t.bands, sII t.next, sB t.brk]]
noncomputable def g_valid_shaped_1 : List PV → Option (PV × List PV) := spec e_valid_shaped_1 (fun (l, t) => l.length < 2 ^ 63) fun (l, t) => (pB (!decide ((l.length : Int) = t.classes)), [])
theorem e_valid_shaped_1_inj (a b : (List Int) × Tab) (h : e_valid_shaped_1 a = e_valid_shaped_1 b) : a = b := by
  obtain ⟨l1, ⟨t1a, t1b, t1c, t1d⟩⟩ := a; obtain ⟨l2, ⟨t2a, t2b, t2c, t2d⟩⟩ := b; simp [e_valid_shaped_1, map_pI_inj, map_pB_inj, map_pY_inj, map_pBand_inj, map_sI_inj, str_inj, Int.natCast_inj, UInt8.toNat_inj, UInt32.toNat_inj] at h; first | exact h | (simp [h]; done) | exact UInt32.toNat_inj.1 (by omega) | exact UInt8.toNat_inj.1 (by omega) | (simp only [Prod.mk.injEq, ← UInt8.toNat_inj, ← UInt32.toNat_inj] at *; omega) | grind
theorem Ok_valid_shaped_1 {l : List Int} {t : Tab} {K : PV × List PV → Prop} : Ok (g_valid_shaped_1 [sI l, .ptr false [pI t.classes, sBand t.bands, sII t.next, sB t.brk]]) K = ((l.length < 2 ^ 63) ∧ K (pB (!decide ((l.length : Int) = t.classes)), [])) := Ok_spec e_valid_shaped_1_inj (l, t)
set_option maxHeartbeats 1000000 in
theorem impl_valid_shaped_1 {tbl : Tbl} {G : Nat → Option (List PV)} (hT : Tb tbl G) : Impl Tryd.prog G 89 (g_valid_shaped_1) := by
  refine impl_p (E := En tbl G 9 k_valid_shaped_1 []) (c := _) hT mixed Tryd.func89 rfl rfl (fun a => by simp [e_valid_shaped_1, pinned.eq_1, pinned.eq_2, PV.isMut.eq_1, PV.isMut.eq_2]) ?_
  rintro ⟨l, t⟩ hok
  refine ⟨by simp [e_valid_shaped_1], ?_⟩
  replace hok : l.length < 2 ^ 63 := hok
  simp -implicitDefEqProofs +contextual (maxSteps := 4000000) [-Int.not_le, -Int.not_lt, -Nat.not_le, -Nat.not_lt, -UInt32.toNat_or, -UInt32.toNat_xor, -UInt32.toNat_and, -UInt8.toNat_or, -UInt8.toNat_xor, -UInt8.toNat_and, -UInt32.toNat_add, -UInt8.toNat_add, -List.map_take, -List.map_drop, ← List.map_take, ← List.map_drop, -List.length_take, -List.length_drop, -List.map_replicate, rep_pY0, rep_pB0, rep_pI0, e_valid_shaped_1.eq_1, Tryd.results89]
theorem tb_shaped_1 {T0 : Tbl} (h : T0 89 = g_valid_shaped_1) (t : Tab) (l : List Int) (hl : l.length < 2 ^ 63) : tb T0 89 [.ptr false [pI t.classes, sBand t.bands, sII t.next, sB t.brk]] (sI l) = (!decide ((l.length : Int) = t.classes)) ∧ tbOk T0 89 [.ptr false [pI t.classes, sBand t.bands, sII t.next, sB t.brk]] (sI l) :=
  tb_of (by rw [h]; exact Ok_eq (by rw [Ok_valid_shaped_1]; exact ⟨hl, rfl⟩))
def shpV (t : Tab) : Bool := decide ((t.brk.length : Int) = t.next.length) && t.next.all fun l => decide ((l.length : Int) = t.classes)
def e_valid_shaped : Tab → List PV := fun t => [pT t]
noncomputable def g_valid_shaped : List PV → Option (PV × List PV) := spec e_valid_shaped (fun t => wide t) fun t => (pB (shpV t), [])
theorem e_valid_shaped_inj (a b : Tab) (h : e_valid_shaped a = e_valid_shaped b) : a = b := by
  obtain ⟨t1a, t1b, t1c, t1d⟩ := a; obtain ⟨t2a, t2b, t2c, t2d⟩ := b; simp [e_valid_shaped, map_pI_inj, map_pB_inj, map_pY_inj, map_pBand_inj, map_sI_inj, str_inj, Int.natCast_inj, UInt8.toNat_inj, UInt32.toNat_inj] at h; first | exact h | (simp [h]; done) | exact UInt32.toNat_inj.1 (by omega) | exact UInt8.toNat_inj.1 (by omega) | (simp only [Prod.mk.injEq, ← UInt8.toNat_inj, ← UInt32.toNat_inj] at *; omega) | grind
theorem Ok_valid_shaped {t : Tab} {K : PV × List PV → Prop} : Ok (g_valid_shaped [pT t]) K = ((wide t) ∧ K (pB (shpV t), [])) := Ok_spec e_valid_shaped_inj t
set_option maxHeartbeats 1000000 in
theorem impl_valid_shaped {tbl : Tbl} {G : Nat → Option (List PV)} (hT : Tb tbl G) {T0 : Tbl} (h_slices_ContainsFunc_s_int : tbl 82 = g_slices_ContainsFunc_s_int T0) (h_valid_shaped_1 : tbl 89 = g_valid_shaped_1) (h0 : T0 89 = g_valid_shaped_1) : Impl Tryd.prog G 80 (g_valid_shaped) := by
  refine impl_p (E := En tbl G 17 k_valid_shaped []) (c := _) hT mixed Tryd.func80 rfl rfl (fun a => by simp [e_valid_shaped, pinned.eq_1, pinned.eq_2, PV.isMut.eq_1, PV.isMut.eq_2]) ?_
  rintro t hok
  refine ⟨by simp [e_valid_shaped], ?_⟩
  replace hok : wide t := hok
  unfold wide at hok
  have ht : ∀ x ∈ t.next, tb T0 89 [.ptr false [pI t.classes, sBand t.bands, sII t.next, sB t.brk]] (sI x) = (!decide ((x.length : Int) = t.classes)) := fun x hx => (tb_shaped_1 h0 t x (by have := hok.2 x hx; omega)).1
  have hto : ∀ x ∈ t.next, tbOk T0 89 [.ptr false [pI t.classes, sBand t.bands, sII t.next, sB t.brk]] (sI x) := fun x hx => (tb_shaped_1 h0 t x (by have := hok.2 x hx; omega)).2
  simp -implicitDefEqProofs +contextual (maxSteps := 4000000) [-Int.not_le, -Int.not_lt, -Nat.not_le, -Nat.not_lt, -UInt32.toNat_or, -UInt32.toNat_xor, -UInt32.toNat_and, -UInt8.toNat_or, -UInt8.toNat_xor, -UInt8.toNat_and, -UInt32.toNat_add, -UInt8.toNat_add, -List.map_take, -List.map_drop, ← List.map_take, ← List.map_drop, -List.length_take, -List.length_drop, -List.map_replicate, rep_pY0, rep_pB0, rep_pI0, e_valid_shaped.eq_1, Tryd.results80, h_slices_ContainsFunc_s_int, Ok_slices_ContainsFunc_s_int, h_valid_shaped_1, Ok_valid_shaped_1]
  refine ⟨fun a => ⟨rfl, fun _ => ⟨⟨by omega, hto⟩, ?_⟩⟩, fun a => ?_⟩
  · have e : shpV t = t.next.all fun l => decide ((l.length : Int) = t.classes) := by unfold shpV; simp [a]
    rw [e, Bool.eq_iff_iff, List.any_eq_true]
    simp only [Bool.not_eq_true', List.all_eq_false]
    constructor
    · rintro ⟨x, hx, h⟩; rw [ht x hx] at h; exact ⟨x, hx, by simpa using h⟩
    · rintro ⟨x, hx, h⟩; exact ⟨x, hx, by rw [ht x hx]; simpa using h⟩
  · unfold shpV; simp [a]
theorem cntV_eq {t : Tab} : cntV t = (inR t.classes 1 8 && inR t.next.length 1 5 && inR t.bands.length 1 60 && shpV t) := by
  unfold cntV shpV
  have : decide (t.brk.length = t.next.length) = decide ((t.brk.length : Int) = t.next.length) := decide_eq_decide.2 (by omega)
  rw [this]; simp only [Bool.and_assoc]
def e_valid_counts : Tab → List PV := fun t => [pT t]
noncomputable def g_valid_counts : List PV → Option (PV × List PV) := spec e_valid_counts (fun t => wide t) fun t => (pB (cntV t), [])
theorem e_valid_counts_inj (a b : Tab) (h : e_valid_counts a = e_valid_counts b) : a = b := by
  obtain ⟨t1a, t1b, t1c, t1d⟩ := a; obtain ⟨t2a, t2b, t2c, t2d⟩ := b; simp [e_valid_counts, map_pI_inj, map_pB_inj, map_pY_inj, map_pBand_inj, map_sI_inj, str_inj, Int.natCast_inj, UInt8.toNat_inj, UInt32.toNat_inj] at h; first | exact h | (simp [h]; done) | exact UInt32.toNat_inj.1 (by omega) | exact UInt8.toNat_inj.1 (by omega) | (simp only [Prod.mk.injEq, ← UInt8.toNat_inj, ← UInt32.toNat_inj] at *; omega) | grind
theorem Ok_valid_counts {t : Tab} {K : PV × List PV → Prop} : Ok (g_valid_counts [pT t]) K = ((wide t) ∧ K (pB (cntV t), [])) := Ok_spec e_valid_counts_inj t
set_option maxHeartbeats 1000000 in
theorem impl_valid_counts {tbl : Tbl} {G : Nat → Option (List PV)} (hT : Tb tbl G) (h_valid_between : tbl 79 = g_valid_between) (h_valid_shaped : tbl 80 = g_valid_shaped) : Impl Tryd.prog G 71 (g_valid_counts) := by
  refine impl_p (E := En tbl G 22 k_valid_counts []) (c := _) hT mixed Tryd.func71 rfl rfl (fun a => by simp [e_valid_counts, pinned.eq_1, pinned.eq_2, PV.isMut.eq_1, PV.isMut.eq_2]) ?_
  rintro t hok
  refine ⟨by simp [e_valid_counts], ?_⟩
  replace hok : wide t := hok
  by_cases a1 : inR t.classes 1 8 = true
  · by_cases a2 : inR t.next.length 1 5 = true
    · by_cases a3 : inR t.bands.length 1 60 = true
      · have e : cntV t = shpV t := by rw [cntV_eq, a1, a2, a3]; simp
        simp -implicitDefEqProofs +contextual (maxSteps := 4000000) [-Int.not_le, -Int.not_lt, -Nat.not_le, -Nat.not_lt, -UInt32.toNat_or, -UInt32.toNat_xor, -UInt32.toNat_and, -UInt8.toNat_or, -UInt8.toNat_xor, -UInt8.toNat_and, -UInt32.toNat_add, -UInt8.toNat_add, -List.map_take, -List.map_drop, ← List.map_take, ← List.map_drop, -List.length_take, -List.length_drop, -List.map_replicate, rep_pY0, rep_pB0, rep_pI0, e_valid_counts.eq_1, Tryd.results71, h_valid_between, Ok_valid_between, h_valid_shaped, Ok_valid_shaped, a1, a2, a3, e]
        exact hok
      · have e : cntV t = false := by rw [cntV_eq]; simp [a3]
        simp -implicitDefEqProofs +contextual (maxSteps := 4000000) [-Int.not_le, -Int.not_lt, -Nat.not_le, -Nat.not_lt, -UInt32.toNat_or, -UInt32.toNat_xor, -UInt32.toNat_and, -UInt8.toNat_or, -UInt8.toNat_xor, -UInt8.toNat_and, -UInt32.toNat_add, -UInt8.toNat_add, -List.map_take, -List.map_drop, ← List.map_take, ← List.map_drop, -List.length_take, -List.length_drop, -List.map_replicate, rep_pY0, rep_pB0, rep_pI0, e_valid_counts.eq_1, Tryd.results71, h_valid_between, Ok_valid_between, h_valid_shaped, Ok_valid_shaped, a1, a2, a3, e]
    · have e : cntV t = false := by rw [cntV_eq]; simp [a2]
      simp -implicitDefEqProofs +contextual (maxSteps := 4000000) [-Int.not_le, -Int.not_lt, -Nat.not_le, -Nat.not_lt, -UInt32.toNat_or, -UInt32.toNat_xor, -UInt32.toNat_and, -UInt8.toNat_or, -UInt8.toNat_xor, -UInt8.toNat_and, -UInt32.toNat_add, -UInt8.toNat_add, -List.map_take, -List.map_drop, ← List.map_take, ← List.map_drop, -List.length_take, -List.length_drop, -List.map_replicate, rep_pY0, rep_pB0, rep_pI0, e_valid_counts.eq_1, Tryd.results71, h_valid_between, Ok_valid_between, h_valid_shaped, Ok_valid_shaped, a1, a2, e]
  · have e : cntV t = false := by rw [cntV_eq]; simp [a1]
    simp -implicitDefEqProofs +contextual (maxSteps := 4000000) [-Int.not_le, -Int.not_lt, -Nat.not_le, -Nat.not_lt, -UInt32.toNat_or, -UInt32.toNat_xor, -UInt32.toNat_and, -UInt8.toNat_or, -UInt8.toNat_xor, -UInt8.toNat_and, -UInt32.toNat_add, -UInt8.toNat_add, -List.map_take, -List.map_drop, ← List.map_take, ← List.map_drop, -List.length_take, -List.length_drop, -List.map_replicate, rep_pY0, rep_pB0, rep_pI0, e_valid_counts.eq_1, Tryd.results71, h_valid_between, Ok_valid_between, h_valid_shaped, Ok_valid_shaped, a1, e]
def e_valid_nexts_1_1 : Int × Tab → List PV := fun (n, t) => [pI n, .ptr false [pI t.classes, sBand t.bands, sII t.next, sB t.brk]]
noncomputable def g_valid_nexts_1_1 : List PV → Option (PV × List PV) := spec e_valid_nexts_1_1 (fun (n, t) => t.next.length < 2 ^ 63) fun (n, t) => (pB (!inR n 0 (t.next.length - 1)), [])
theorem e_valid_nexts_1_1_inj (a b : Int × Tab) (h : e_valid_nexts_1_1 a = e_valid_nexts_1_1 b) : a = b := by
  obtain ⟨n1, ⟨t1a, t1b, t1c, t1d⟩⟩ := a; obtain ⟨n2, ⟨t2a, t2b, t2c, t2d⟩⟩ := b; simp [e_valid_nexts_1_1, map_pI_inj, map_pB_inj, map_pY_inj, map_pBand_inj, map_sI_inj, str_inj, Int.natCast_inj, UInt8.toNat_inj, UInt32.toNat_inj] at h; first | exact h | (simp [h]; done) | exact UInt32.toNat_inj.1 (by omega) | exact UInt8.toNat_inj.1 (by omega) | (simp only [Prod.mk.injEq, ← UInt8.toNat_inj, ← UInt32.toNat_inj] at *; omega) | grind
theorem Ok_valid_nexts_1_1 {n : Int} {t : Tab} {K : PV × List PV → Prop} : Ok (g_valid_nexts_1_1 [pI n, .ptr false [pI t.classes, sBand t.bands, sII t.next, sB t.brk]]) K = ((t.next.length < 2 ^ 63) ∧ K (pB (!inR n 0 (t.next.length - 1)), [])) := Ok_spec e_valid_nexts_1_1_inj (n, t)
set_option maxHeartbeats 1000000 in
theorem impl_valid_nexts_1_1 {tbl : Tbl} {G : Nat → Option (List PV)} (hT : Tb tbl G) (h_valid_between : tbl 79 = g_valid_between) : Impl Tryd.prog G 85 (g_valid_nexts_1_1) := by
  refine impl_p (E := En tbl G 11 k_valid_nexts_1_1 []) (c := _) hT mixed Tryd.func85 rfl rfl (fun a => by simp [e_valid_nexts_1_1, pinned.eq_1, pinned.eq_2, PV.isMut.eq_1, PV.isMut.eq_2]) ?_
  rintro ⟨n, t⟩ hok
  refine ⟨by simp [e_valid_nexts_1_1], ?_⟩
  replace hok : t.next.length < 2 ^ 63 := hok
  simp -implicitDefEqProofs +contextual (maxSteps := 4000000) [-Int.not_le, -Int.not_lt, -Nat.not_le, -Nat.not_lt, -UInt32.toNat_or, -UInt32.toNat_xor, -UInt32.toNat_and, -UInt8.toNat_or, -UInt8.toNat_xor, -UInt8.toNat_and, -UInt32.toNat_add, -UInt8.toNat_add, -List.map_take, -List.map_drop, ← List.map_take, ← List.map_drop, -List.length_take, -List.length_drop, -List.map_replicate, rep_pY0, rep_pB0, rep_pI0, e_valid_nexts_1_1.eq_1, Tryd.results85, h_valid_between, Ok_valid_between]
  unfold fits; omega
theorem tb_nexts_1_1 {T0 : Tbl} (h : T0 85 = g_valid_nexts_1_1) (t : Tab) (ht : t.next.length < 2 ^ 63) (n : Int) : tb T0 85 [.ptr false [pI t.classes, sBand t.bands, sII t.next, sB t.brk]] (pI n) = (!inR n 0 (t.next.length - 1)) ∧ tbOk T0 85 [.ptr false [pI t.classes, sBand t.bands, sII t.next, sB t.brk]] (pI n) :=
  tb_of (by rw [h]; exact Ok_eq (by rw [Ok_valid_nexts_1_1]; exact ⟨ht, rfl⟩))
def e_valid_nexts_1 : (List Int) × Tab → List PV := fun (l, t) => [sI l, .ptr false [pI t.classes, sBand t.bands, sII t.next, sB t.brk]]
noncomputable def g_valid_nexts_1 : List PV → Option (PV × List PV) := spec e_valid_nexts_1 (fun (l, t) => t.next.length < 2 ^ 63 ∧ l.length < 2 ^ 63) fun (l, t) => (pB (!l.all fun n => inR n 0 (t.next.length - 1)), [])
theorem e_valid_nexts_1_inj (a b : (List Int) × Tab) (h : e_valid_nexts_1 a = e_valid_nexts_1 b) : a = b := by
  obtain ⟨l1, ⟨t1a, t1b, t1c, t1d⟩⟩ := a; obtain ⟨l2, ⟨t2a, t2b, t2c, t2d⟩⟩ := b; simp [e_valid_nexts_1, map_pI_inj, map_pB_inj, map_pY_inj, map_pBand_inj, map_sI_inj, str_inj, Int.natCast_inj, UInt8.toNat_inj, UInt32.toNat_inj] at h; first | exact h | (simp [h]; done) | exact UInt32.toNat_inj.1 (by omega) | exact UInt8.toNat_inj.1 (by omega) | (simp only [Prod.mk.injEq, ← UInt8.toNat_inj, ← UInt32.toNat_inj] at *; omega) | grind
theorem Ok_valid_nexts_1 {l : List Int} {t : Tab} {K : PV × List PV → Prop} : Ok (g_valid_nexts_1 [sI l, .ptr false [pI t.classes, sBand t.bands, sII t.next, sB t.brk]]) K = ((t.next.length < 2 ^ 63 ∧ l.length < 2 ^ 63) ∧ K (pB (!l.all fun n => inR n 0 (t.next.length - 1)), [])) := Ok_spec e_valid_nexts_1_inj (l, t)
set_option maxHeartbeats 1000000 in
theorem impl_valid_nexts_1 {tbl : Tbl} {G : Nat → Option (List PV)} (hT : Tb tbl G) {T0 : Tbl} (h_slices_ContainsFunc_int : tbl 84 = g_slices_ContainsFunc_int T0) (h_valid_nexts_1_1 : tbl 85 = g_valid_nexts_1_1) (h0 : T0 85 = g_valid_nexts_1_1) : Impl Tryd.prog G 83 (g_valid_nexts_1) := by
  refine impl_p (E := En tbl G 7 k_valid_nexts_1 []) (c := _) hT mixed Tryd.func83 rfl rfl (fun a => by simp [e_valid_nexts_1, pinned.eq_1, pinned.eq_2, PV.isMut.eq_1, PV.isMut.eq_2]) ?_
  rintro ⟨l, t⟩ hok
  refine ⟨by simp [e_valid_nexts_1], ?_⟩
  replace hok : t.next.length < 2 ^ 63 ∧ l.length < 2 ^ 63 := hok
  have ht := fun n => (tb_nexts_1_1 h0 t hok.1 n).1
  have hto := fun n => (tb_nexts_1_1 h0 t hok.1 n).2
  simp -implicitDefEqProofs +contextual (maxSteps := 4000000) [-Int.not_le, -Int.not_lt, -Nat.not_le, -Nat.not_lt, -UInt32.toNat_or, -UInt32.toNat_xor, -UInt32.toNat_and, -UInt8.toNat_or, -UInt8.toNat_xor, -UInt8.toNat_and, -UInt32.toNat_add, -UInt8.toNat_add, -List.map_take, -List.map_drop, ← List.map_take, ← List.map_drop, -List.length_take, -List.length_drop, -List.map_replicate, rep_pY0, rep_pB0, rep_pI0, e_valid_nexts_1.eq_1, Tryd.results83, h_slices_ContainsFunc_int, Ok_slices_ContainsFunc_int, h_valid_nexts_1_1, Ok_valid_nexts_1_1, ht, hto]
  exact ⟨rfl, fun _ => ⟨by omega, by rw [List.all_eq_not_any_not]; simp⟩⟩
theorem tb_nexts_1 {T0 : Tbl} (h : T0 83 = g_valid_nexts_1) (t : Tab) (ht : t.next.length < 2 ^ 63) (l : List Int) (hl : l.length < 2 ^ 63) : tb T0 83 [.ptr false [pI t.classes, sBand t.bands, sII t.next, sB t.brk]] (sI l) = (!l.all fun n => inR n 0 (t.next.length - 1)) ∧ tbOk T0 83 [.ptr false [pI t.classes, sBand t.bands, sII t.next, sB t.brk]] (sI l) :=
  tb_of (by rw [h]; exact Ok_eq (by rw [Ok_valid_nexts_1]; exact ⟨⟨ht, hl⟩, rfl⟩))
def e_valid_nexts : Tab → List PV := fun t => [pT t]
noncomputable def g_valid_nexts : List PV → Option (PV × List PV) := spec e_valid_nexts (fun t => small t) fun t => (pB (nxtV t), [])
theorem e_valid_nexts_inj (a b : Tab) (h : e_valid_nexts a = e_valid_nexts b) : a = b := by
  obtain ⟨t1a, t1b, t1c, t1d⟩ := a; obtain ⟨t2a, t2b, t2c, t2d⟩ := b; simp [e_valid_nexts, map_pI_inj, map_pB_inj, map_pY_inj, map_pBand_inj, map_sI_inj, str_inj, Int.natCast_inj, UInt8.toNat_inj, UInt32.toNat_inj] at h; first | exact h | (simp [h]; done) | exact UInt32.toNat_inj.1 (by omega) | exact UInt8.toNat_inj.1 (by omega) | (simp only [Prod.mk.injEq, ← UInt8.toNat_inj, ← UInt32.toNat_inj] at *; omega) | grind
theorem Ok_valid_nexts {t : Tab} {K : PV × List PV → Prop} : Ok (g_valid_nexts [pT t]) K = ((small t) ∧ K (pB (nxtV t), [])) := Ok_spec e_valid_nexts_inj t
set_option maxHeartbeats 1000000 in
theorem impl_valid_nexts {tbl : Tbl} {G : Nat → Option (List PV)} (hT : Tb tbl G) {T0 : Tbl} (h_slices_ContainsFunc_s_int : tbl 82 = g_slices_ContainsFunc_s_int T0) (h_valid_nexts_1 : tbl 83 = g_valid_nexts_1) (h0 : T0 83 = g_valid_nexts_1) : Impl Tryd.prog G 74 (g_valid_nexts) := by
  refine impl_p (E := En tbl G 8 k_valid_nexts []) (c := _) hT mixed Tryd.func74 rfl rfl (fun a => by simp [e_valid_nexts, pinned.eq_1, pinned.eq_2, PV.isMut.eq_1, PV.isMut.eq_2]) ?_
  rintro t hok
  refine ⟨by simp [e_valid_nexts], ?_⟩
  replace hok : small t := hok
  unfold small at hok
  have ht : ∀ x ∈ t.next, tb T0 83 [.ptr false [pI t.classes, sBand t.bands, sII t.next, sB t.brk]] (sI x) = (!x.all fun n => inR n 0 (t.next.length - 1)) := fun x hx => (tb_nexts_1 h0 t (by omega) x (by have := hok.2 x hx; omega)).1
  have hto : ∀ x ∈ t.next, tbOk T0 83 [.ptr false [pI t.classes, sBand t.bands, sII t.next, sB t.brk]] (sI x) := fun x hx => (tb_nexts_1 h0 t (by omega) x (by have := hok.2 x hx; omega)).2
  simp -implicitDefEqProofs +contextual (maxSteps := 4000000) [-Int.not_le, -Int.not_lt, -Nat.not_le, -Nat.not_lt, -UInt32.toNat_or, -UInt32.toNat_xor, -UInt32.toNat_and, -UInt8.toNat_or, -UInt8.toNat_xor, -UInt8.toNat_and, -UInt32.toNat_add, -UInt8.toNat_add, -List.map_take, -List.map_drop, ← List.map_take, ← List.map_drop, -List.length_take, -List.length_drop, -List.map_replicate, rep_pY0, rep_pB0, rep_pI0, e_valid_nexts.eq_1, Tryd.results74, h_slices_ContainsFunc_s_int, Ok_slices_ContainsFunc_s_int, h_valid_nexts_1, Ok_valid_nexts_1]
  refine ⟨rfl, fun _ => ⟨⟨by omega, hto⟩, ?_⟩⟩
  rw [Bool.eq_iff_iff, List.any_eq_true]
  unfold nxtV
  simp only [Bool.not_eq_true', List.all_eq_false]
  constructor
  · rintro ⟨x, hx, h⟩; rw [ht x hx] at h; exact ⟨x, hx, by simpa using h⟩
  · rintro ⟨x, hx, h⟩; exact ⟨x, hx, by rw [ht x hx]; simpa using h⟩
theorem bOk_at {l : List (Int × Int)} {i : Nat} (h : i < l.length) : l.getD i (0, 0) = l[i] := by simp [List.getD_eq_getElem?_getD, h]
theorem bOk_zero {l : List (Int × Int)} (h : 0 < l.length) : bOk l 0 = (isSc l[0].1 && decide (l[0].1 = 0)) := by unfold bOk; rw [bOk_at h, if_pos rfl]
theorem bOk_succ {l : List (Int × Int)} {i : Nat} (h0 : i ≠ 0) (h : i < l.length) : bOk l i = (isSc l[i].1 && (decide ((l[i - 1]'(by omega)).1 < l[i].1) && decide (l[i].2 ≠ (l[i - 1]'(by omega)).2))) := by
  unfold bOk; rw [bOk_at h, if_neg h0, bOk_at (show i - 1 < l.length by omega)]
def e_valid_bands : Tab → List PV := fun t => [pT t]
noncomputable def g_valid_bands : List PV → Option (PV × List PV) := spec e_valid_bands (fun t => small t) fun t => (pB (bndV t.bands), [])
theorem e_valid_bands_inj (a b : Tab) (h : e_valid_bands a = e_valid_bands b) : a = b := by
  obtain ⟨t1a, t1b, t1c, t1d⟩ := a; obtain ⟨t2a, t2b, t2c, t2d⟩ := b; simp [e_valid_bands, map_pI_inj, map_pB_inj, map_pY_inj, map_pBand_inj, map_sI_inj, str_inj, Int.natCast_inj, UInt8.toNat_inj, UInt32.toNat_inj] at h; first | exact h | (simp [h]; done) | exact UInt32.toNat_inj.1 (by omega) | exact UInt8.toNat_inj.1 (by omega) | (simp only [Prod.mk.injEq, ← UInt8.toNat_inj, ← UInt32.toNat_inj] at *; omega) | grind
theorem Ok_valid_bands {t : Tab} {K : PV × List PV → Prop} : Ok (g_valid_bands [pT t]) K = ((small t) ∧ K (pB (bndV t.bands), [])) := Ok_spec e_valid_bands_inj t
set_option maxHeartbeats 1000000 in
theorem impl_valid_bands {tbl : Tbl} {G : Nat → Option (List PV)} (hT : Tb tbl G) (h_scalar_Is : tbl 46 = g_scalar_Is) : Impl Tryd.prog G 72 (g_valid_bands) := by
  refine impl_p (E := En tbl G 53 k_valid_bands []) (c := _) hT mixed Tryd.func72 rfl rfl (fun a => by simp [e_valid_bands, pinned.eq_1, pinned.eq_2, PV.isMut.eq_1, PV.isMut.eq_2]) ?_
  rintro t hok
  refine ⟨by simp [e_valid_bands], ?_⟩
  replace hok : small t := hok
  unfold small at hok
  simp -implicitDefEqProofs +contextual (maxSteps := 4000000) [-Int.not_le, -Int.not_lt, -Nat.not_le, -Nat.not_lt, -UInt32.toNat_or, -UInt32.toNat_xor, -UInt32.toNat_and, -UInt8.toNat_or, -UInt8.toNat_xor, -UInt8.toNat_and, -UInt32.toNat_add, -UInt8.toNat_add, -List.map_take, -List.map_drop, ← List.map_take, ← List.map_drop, -List.length_take, -List.length_drop, -List.map_replicate, rep_pY0, rep_pB0, rep_pI0, e_valid_bands.eq_1, Tryd.results72, h_scalar_Is, Ok_scalar_Is]
  refine loopu (fun i => i ≤ t.bands.length ∧ ∀ j, j < i → bOk t.bands j = true)
    (fun i => [(8, pI i)])
    (fun i => t.bands.length - i) ?_ (s := 0) rfl (by simp)
  rintro i ⟨hi, hp⟩
  have hbd : bndV t.bands = true ↔ ∀ i, i < t.bands.length → bOk t.bands i = true := bndV_iff
  rcases Nat.eq_zero_or_pos i with rfl | hpos
  · simp -implicitDefEqProofs +contextual (maxSteps := 4000000) [-Int.not_le, -Int.not_lt, -Nat.not_le, -Nat.not_lt, -UInt32.toNat_or, -UInt32.toNat_xor, -UInt32.toNat_and, -UInt8.toNat_or, -UInt8.toNat_xor, -UInt8.toNat_and, -UInt32.toNat_add, -UInt8.toNat_add, -List.map_take, -List.map_drop, ← List.map_take, ← List.map_drop, -List.length_take, -List.length_drop, -List.map_replicate, rep_pY0, rep_pB0, rep_pI0, e_valid_bands.eq_1, Tryd.results72, h_scalar_Is, Ok_scalar_Is]
    refine ⟨fun a => ?_, fun a => hbd.2 fun j hj => by omega⟩
    have e := bOk_zero a
    refine ⟨fun b => ⟨fun c => bndV_no a (by rw [e]; simp [c]), fun c => ⟨by decide +kernel, by decide, fun _ => ⟨1, ⟨by omega, fun j hj => ?_⟩, by omega, rfl⟩⟩⟩, fun b => bndV_no a (by rw [e]; simp [b])⟩
    obtain rfl : j = 0 := by omega
    rw [e, b]; simp [c]
  · have h0 : ¬ i = 0 := by omega
    have tn1 : ((i : Int) - 1).toNat = i - 1 := by omega
    have h1 : (1 : Int) ≤ i := by omega
    simp -implicitDefEqProofs +contextual (maxSteps := 4000000) [-Int.not_le, -Int.not_lt, -Nat.not_le, -Nat.not_lt, -UInt32.toNat_or, -UInt32.toNat_xor, -UInt32.toNat_and, -UInt8.toNat_or, -UInt8.toNat_xor, -UInt8.toNat_and, -UInt32.toNat_add, -UInt8.toNat_add, -List.map_take, -List.map_drop, ← List.map_take, ← List.map_drop, -List.length_take, -List.length_drop, -List.map_replicate, rep_pY0, rep_pB0, rep_pI0, e_valid_bands.eq_1, Tryd.results72, h_scalar_Is, Ok_scalar_Is, h0, hpos, tn1, h1]
    refine ⟨fun a => ?_, fun a => hbd.2 fun j hj => hp j (by omega)⟩
    have e := bOk_succ h0 a
    refine ⟨fun b => ⟨by unfold fits; omega, fun _ => ⟨by omega, fun _ => ⟨by omega, fun c => ⟨by decide +kernel, fun d => bndV_no a (by rw [e]; simp [d]), fun d => ⟨by unfold fits; omega, fun _ => ⟨i + 1, ⟨by omega, fun j hj => ?_⟩, by omega, by omega⟩⟩⟩, fun c => ⟨by decide +kernel, bndV_no a (by rw [e]; simp; omega)⟩⟩⟩⟩, fun b => bndV_no a (by rw [e]; simp [b])⟩
    rcases (show j < i ∨ j = i by omega) with k | rfl
    · exact hp j k
    · rw [e, b]; simp [d]; omega
def e_valid_classes : Tab → List PV := fun t => [pT t]
noncomputable def g_valid_classes : List PV → Option (PV × List PV) := spec e_valid_classes (fun t => small t) fun t => (pB (clsV t), [])
theorem e_valid_classes_inj (a b : Tab) (h : e_valid_classes a = e_valid_classes b) : a = b := by
  obtain ⟨t1a, t1b, t1c, t1d⟩ := a; obtain ⟨t2a, t2b, t2c, t2d⟩ := b; simp [e_valid_classes, map_pI_inj, map_pB_inj, map_pY_inj, map_pBand_inj, map_sI_inj, str_inj, Int.natCast_inj, UInt8.toNat_inj, UInt32.toNat_inj] at h; first | exact h | (simp [h]; done) | exact UInt32.toNat_inj.1 (by omega) | exact UInt8.toNat_inj.1 (by omega) | (simp only [Prod.mk.injEq, ← UInt8.toNat_inj, ← UInt32.toNat_inj] at *; omega) | grind
theorem Ok_valid_classes {t : Tab} {K : PV × List PV → Prop} : Ok (g_valid_classes [pT t]) K = ((small t) ∧ K (pB (clsV t), [])) := Ok_spec e_valid_classes_inj t
set_option maxHeartbeats 1000000 in
theorem impl_valid_classes {tbl : Tbl} {G : Nat → Option (List PV)} (hT : Tb tbl G) (h_valid_inOrder : tbl 81 = g_valid_inOrder) : Impl Tryd.prog G 73 (g_valid_classes) := by
  refine impl_p (E := En tbl G 33 k_valid_classes []) (c := _) hT mixed Tryd.func73 rfl rfl (fun a => by simp [e_valid_classes, pinned.eq_1, pinned.eq_2, PV.isMut.eq_1, PV.isMut.eq_2]) ?_
  rintro t hok
  refine ⟨by simp [e_valid_classes], ?_⟩
  replace hok : small t := hok
  unfold small at hok
  simp -implicitDefEqProofs +contextual (maxSteps := 4000000) [-Int.not_le, -Int.not_lt, -Nat.not_le, -Nat.not_lt, -UInt32.toNat_or, -UInt32.toNat_xor, -UInt32.toNat_and, -UInt8.toNat_or, -UInt8.toNat_xor, -UInt8.toNat_and, -UInt32.toNat_add, -UInt8.toNat_add, -List.map_take, -List.map_drop, ← List.map_take, ← List.map_drop, -List.length_take, -List.length_drop, -List.map_replicate, rep_pY0, rep_pB0, rep_pI0, e_valid_classes.eq_1, Tryd.results73, h_valid_inOrder, Ok_valid_inOrder]
  refine loopu (fun i => i ≤ t.bands.length)
    (fun i => [(3, tI ((clsL t).take i)), (11, pI i)])
    (fun i => t.bands.length - i) ?_ (s := 0) rfl (by simp)
  intro i hi
  have hl : (clsL t).length = t.bands.length := by unfold clsL; simp
  simp -implicitDefEqProofs +contextual (maxSteps := 4000000) [-Int.not_le, -Int.not_lt, -Nat.not_le, -Nat.not_lt, -UInt32.toNat_or, -UInt32.toNat_xor, -UInt32.toNat_and, -UInt8.toNat_or, -UInt8.toNat_xor, -UInt8.toNat_and, -UInt32.toNat_add, -UInt8.toNat_add, -List.map_take, -List.map_drop, ← List.map_take, ← List.map_drop, -List.length_take, -List.length_drop, -List.map_replicate, rep_pY0, rep_pB0, rep_pI0, e_valid_classes.eq_1, Tryd.results73, h_valid_inOrder, Ok_valid_inOrder]
  have htl : (List.take i (clsL t)).length ≤ t.bands.length := by rw [List.length_take]; omega
  refine ⟨fun a => ⟨by omega, fun _ => ⟨by unfold fits; omega, fun _ => ⟨i + 1, by omega, by omega, ?_, by omega⟩⟩⟩, fun a => ?_⟩
  · rw [take_succ' (by omega), List.map_append]; simp [clsL]
  · rw [List.take_of_length_le (by omega)]
    refine ⟨by omega, fun h => ?_, fun h => ?_⟩ <;> (unfold clsV; rw [h]; simp)

end Go.V
