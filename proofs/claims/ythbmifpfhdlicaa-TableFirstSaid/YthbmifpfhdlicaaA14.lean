/- A part of the proof of TableFirst: contracts of functions, or what these lean on. No condition. -/
import Derived.Test.YthbmifpfhdlicaaA2
import Derived.Test.YthbmifpfhdlicaaA12
namespace Go.V
open Go.Proofs
set_option maxRecDepth 8000
set_option linter.unusedSimpArgs false
set_option linter.unusedVariables false
theorem wrapU64 {n : Int} (h : 0 ≤ n ∧ n ≤ 18446744073709551615) : IntKind.u64.wrap n = n := by
  simp [IntKind.wrap, IntKind.bits, IntKind.signed]
  omega
theorem putL_length {v n : Int} : (putL v n).length = clamp4 n := by unfold putL; rw [List.length_drop]; unfold big4 clamp4; simp only [List.length_cons, List.length_nil]; omega
theorem clamp4_le {n : Int} : clamp4 n ≤ 4 := by unfold clamp4; omega
theorem putL_at {v n : Int} {r : Nat} (h : 0 < r) (hr : r ≤ clamp4 n) : (putL v n).take (clamp4 n - (r - 1)) = (putL v n).take (clamp4 n - r) ++ [by8 (v / 2 ^ (8 * (r - 1)))] := by
  have hc := clamp4_le (n := n)
  have hl : clamp4 n - r < (putL v n).length := by rw [putL_length]; omega
  rw [show clamp4 n - (r - 1) = (clamp4 n - r) + 1 by omega, take_succ' hl]
  congr 1
  have e : (putL v n)[clamp4 n - r]? = some (by8 (v / 2 ^ (8 * (r - 1)))) := by
    unfold putL
    rw [List.getElem?_drop, show 4 - clamp4 n + (clamp4 n - r) = 4 - r by omega]
    have : r = 1 ∨ r = 2 ∨ r = 3 ∨ r = 4 := by omega
    rcases this with rfl | rfl | rfl | rfl <;> simp [big4]
  rw [List.getElem?_eq_getElem hl] at e
  rw [Option.some.inj e]
def e_ref05_Put : (List UInt8) × Int × Int → List PV := fun (l, v, n) => [sY l, pI v, pI n]
noncomputable def g_ref05_Put : List PV → Option (PV × List PV) := spec e_ref05_Put (fun (l, v, n) => l.length < 2 ^ 39 ∧ fits v) fun (l, v, n) => (tY (l ++ putL v n), [])
theorem e_ref05_Put_inj (a b : (List UInt8) × Int × Int) (h : e_ref05_Put a = e_ref05_Put b) : a = b := by
  obtain ⟨l1, v1, n1⟩ := a; obtain ⟨l2, v2, n2⟩ := b; simp [e_ref05_Put, map_pI_inj, map_pB_inj, map_pY_inj, map_pBand_inj, map_sI_inj, Int.natCast_inj, UInt8.toNat_inj, UInt32.toNat_inj] at h; first | exact h | (simp [h]; done) | exact UInt32.toNat_inj.1 (by omega) | exact UInt8.toNat_inj.1 (by omega) | (simp only [Prod.mk.injEq, ← UInt8.toNat_inj, ← UInt32.toNat_inj] at *; omega) | grind
theorem Ok_ref05_Put {l : List UInt8} {v : Int} {n : Int} {K : PV × List PV → Prop} : Ok (g_ref05_Put [sY l, pI v, pI n]) K = ((l.length < 2 ^ 39 ∧ fits v) ∧ K (tY (l ++ putL v n), [])) := Ok_spec e_ref05_Put_inj (l, v, n)
set_option maxHeartbeats 1000000 in
theorem impl_ref05_Put {tbl : Tbl} {G : Nat → Option (List PV)} (hT : Tb tbl G) : Impl Try.prog G 31 (g_ref05_Put) := by
  refine impl_p (E := En tbl G 30 k_ref05_Put []) (c := _) hT mixed Try.func31 rfl rfl (fun a => by simp [e_ref05_Put, pinned.eq_1, pinned.eq_2, PV.isMut.eq_1, PV.isMut.eq_2]) ?_
  rintro ⟨l, v, n⟩ hok
  refine ⟨by simp [e_ref05_Put], ?_⟩
  replace hok : l.length < 2 ^ 39 ∧ fits v := hok
  obtain ⟨c, hc, hcl⟩ : ∃ c : Nat, (if 0 < (if 4 < n then 4 else n) then (if 4 < n then 4 else n) else 0 : Int) = c ∧ clamp4 n = c := ⟨clamp4 n, by unfold clamp4; split <;> split <;> omega, rfl⟩
  have h4 := clamp4_le (n := n)
  simp -implicitDefEqProofs +contextual (maxSteps := 4000000) [-Int.not_le, -Int.not_lt, -Nat.not_le, -Nat.not_lt, -UInt32.toNat_or, -UInt32.toNat_xor, -UInt32.toNat_and, -UInt8.toNat_or, -UInt8.toNat_xor, -UInt8.toNat_and, -UInt32.toNat_add, -UInt8.toNat_add, -List.map_take, -List.map_drop, ← List.map_take, ← List.map_drop, -List.length_take, -List.length_drop, -List.map_replicate, rep_pY0, rep_pB0, rep_pI0, e_ref05_Put.eq_1, Try.results31, hc]
  (repeat' (first | exact (show drawD _ _ = true by decide +kernel) | exact (show _ = List.range' _ _ from rfl) | with_reducible refine and_imp_self' ?_ ?_ | with_reducible refine And.intro ?_ ?_ | with_reducible refine @Exists.intro Nat _ (i + 1) ?_ | with_reducible refine Exists.intro (show (_ : Nat) < _ by omega) ?_ | intro _)) <;> (try (first | omega | (unfold fits; omega) | assumption | with_reducible rfl | (simp only [inR_iff, inR_not, fits_iff] at *; omega)))
  refine loopo (fun r => r ≤ c)
    (fun r => [(1, .val (pI v), 0, 0), (7, .val (tY (l ++ (putL v n).take (c - r))), 0, 0), (8, .val (pI (r - 1)), 0, 0)])
    (fun r => r) ?_ (s := c) ?_ ?_
  rotate_left
  · simp
  · simp
  intro r hr
  rcases r with _ | m
  · simp -implicitDefEqProofs +contextual (maxSteps := 4000000) [-Int.not_le, -Int.not_lt, -Nat.not_le, -Nat.not_lt, -UInt32.toNat_or, -UInt32.toNat_xor, -UInt32.toNat_and, -UInt8.toNat_or, -UInt8.toNat_xor, -UInt8.toNat_and, -UInt32.toNat_add, -UInt8.toNat_add, -List.map_take, -List.map_drop, ← List.map_take, ← List.map_drop, -List.length_take, -List.length_drop, -List.map_replicate, rep_pY0, rep_pB0, rep_pI0, e_ref05_Put.eq_1, Try.results31]
    rw [List.take_of_length_le (by rw [putL_length]; omega)]
  · have hw : IntKind.u64.wrap (8 * (m : Int)) = 8 * (m : Int) := wrapU64 (by omega)
    have ht : (8 * (m : Int)).toNat = 8 * m := by omega
    have hp := putL_at (v := v) (n := n) (r := m + 1) (by omega) (by omega)
    rw [hcl, show m + 1 - 1 = m by omega] at hp
    simp -implicitDefEqProofs +contextual (maxSteps := 4000000) [-Int.not_le, -Int.not_lt, -Nat.not_le, -Nat.not_lt, -UInt32.toNat_or, -UInt32.toNat_xor, -UInt32.toNat_and, -UInt8.toNat_or, -UInt8.toNat_xor, -UInt8.toNat_and, -UInt32.toNat_add, -UInt8.toNat_add, -List.map_take, -List.map_drop, ← List.map_take, ← List.map_drop, -List.length_take, -List.length_drop, -List.map_replicate, rep_pY0, rep_pB0, rep_pI0, e_ref05_Put.eq_1, Try.results31, hw, ht]
    have hl : (List.take (c - (m + 1)) (putL v n)).length ≤ 4 := by rw [List.length_take]; omega
    refine ⟨by unfold fits; omega, fun _ => ⟨by omega, fun _ _ => ⟨by omega, fun _ => ⟨by unfold fits; omega, fun _ => ⟨m, by omega, by omega, ?_, by omega⟩⟩⟩⟩⟩
    rw [hp, List.map_append]; rfl
theorem getN_zero {b : List UInt8} {x n : Int} (h : getB b x n = false) : getN b x n = 0 := by rw [getN, if_neg (by simp [h])]
def e_ref05_Get : (List UInt8) × Int × Int → List PV := fun (b, at', size) => [sY b, pI at', pI size]
noncomputable def g_ref05_Get : List PV → Option (PV × List PV) := spec e_ref05_Get (fun (b, at', size) => b.length < 2 ^ 62) fun (b, at', size) => (.agg [pI (getN b at' size), pB (getB b at' size)], [])
theorem e_ref05_Get_inj (a b : (List UInt8) × Int × Int) (h : e_ref05_Get a = e_ref05_Get b) : a = b := by
  obtain ⟨b1, at'1, size1⟩ := a; obtain ⟨b2, at'2, size2⟩ := b; simp [e_ref05_Get, map_pI_inj, map_pB_inj, map_pY_inj, map_pBand_inj, map_sI_inj, Int.natCast_inj, UInt8.toNat_inj, UInt32.toNat_inj] at h; first | exact h | (simp [h]; done) | exact UInt32.toNat_inj.1 (by omega) | exact UInt8.toNat_inj.1 (by omega) | (simp only [Prod.mk.injEq, ← UInt8.toNat_inj, ← UInt32.toNat_inj] at *; omega) | grind
theorem Ok_ref05_Get {b : List UInt8} {at' : Int} {size : Int} {K : PV × List PV → Prop} : Ok (g_ref05_Get [sY b, pI at', pI size]) K = ((b.length < 2 ^ 62) ∧ K (.agg [pI (getN b at' size), pB (getB b at' size)], [])) := Ok_spec e_ref05_Get_inj (b, at', size)
set_option maxHeartbeats 1000000 in
theorem impl_ref05_Get {tbl : Tbl} {G : Nat → Option (List PV)} (hT : Tb tbl G) : Impl Try.prog G 65 (g_ref05_Get) := by
  refine impl_p (E := En tbl G 45 k_ref05_Get []) (c := _) hT mixed Try.func65 rfl rfl (fun a => by simp [e_ref05_Get, pinned.eq_1, pinned.eq_2, PV.isMut.eq_1, PV.isMut.eq_2]) ?_
  rintro ⟨b, at', size⟩ hok
  refine ⟨by simp [e_ref05_Get], ?_⟩
  replace hok : b.length < 2 ^ 62 := hok
  by_cases h : getB b at' size = true
  · obtain ⟨h1, h2, h3, h4⟩ := getB_iff.1 h
    have g1 : ¬ size < 1 := by omega
    have g2 : ¬ 4 < size := by omega
    have g3 : ¬ at' < 0 := by omega
    have g4 : ¬ (b.length - size < at') := by omega
    have hgN : getN b at' size = beN ((b.drop at'.toNat).take size.toNat) := by rw [getN, if_pos h]
    simp -implicitDefEqProofs +contextual (maxSteps := 4000000) [-Int.not_le, -Int.not_lt, -Nat.not_le, -Nat.not_lt, -UInt32.toNat_or, -UInt32.toNat_xor, -UInt32.toNat_and, -UInt8.toNat_or, -UInt8.toNat_xor, -UInt8.toNat_and, -UInt32.toNat_add, -UInt8.toNat_add, -List.map_take, -List.map_drop, ← List.map_take, ← List.map_drop, -List.length_take, -List.length_drop, -List.map_replicate, rep_pY0, rep_pB0, rep_pI0, e_ref05_Get.eq_1, Try.results65, h, g1, g2, g3, g4, hgN]
    (repeat' (first | exact (show drawD _ _ = true by decide +kernel) | exact (show _ = List.range' _ _ from rfl) | with_reducible refine and_imp_self' ?_ ?_ | with_reducible refine And.intro ?_ ?_ | with_reducible refine @Exists.intro Nat _ (i + 1) ?_ | with_reducible refine Exists.intro (show (_ : Nat) < _ by omega) ?_ | intro _)) <;> (try (first | omega | (unfold fits; omega) | assumption | with_reducible rfl | (simp only [inR_iff, inR_not, fits_iff] at *; omega)))
    have hlen : ((b.drop at'.toNat).take size.toNat).length = size.toNat := by rw [List.length_take, List.length_drop]; omega
    generalize hL : (b.drop at'.toNat).take size.toNat = L at hlen hgN ⊢
    obtain rfl : size = L.length := by omega
    refine loopo (fun i => i ≤ L.length)
      (fun i => [(0, .val (sY b), 0, 0), (1, .val (pI at'), 0, 0), (2, .val (pI L.length), 0, 0), (6, .val (.ptr true [pI 0, pB false]), 0, 0), (7, .val (pI (beN (L.take i))), 0, 0), (8, .val (pI i), 0, 0)])
      (fun i => L.length - i) ?_ (s := 0) rfl (by simp)
    intro i hi
    have hb : i < L.length → 0 ≤ beN (L.take i) ∧ beN (L.take i) < 16777216 := fun h => beN_lt (by rw [List.length_take]; omega)
    have hx : ∀ (hi : i < L.length) (hk : (at' + (i : Int)).toNat < b.length), b[(at' + (i : Int)).toNat] = L[i] := by
      intro hi hk
      have e : L[i]? = some b[(at' + (i : Int)).toNat] := by
        rw [← hL, List.getElem?_take_of_lt (by omega), List.getElem?_drop, show at'.toNat + i = (at' + (i : Int)).toNat by omega, List.getElem?_eq_getElem hk]
      rw [List.getElem?_eq_getElem hi] at e
      exact (Option.some.inj e).symm
    simp -implicitDefEqProofs +contextual (maxSteps := 4000000) [-Int.not_le, -Int.not_lt, -Nat.not_le, -Nat.not_lt, -UInt32.toNat_or, -UInt32.toNat_xor, -UInt32.toNat_and, -UInt8.toNat_or, -UInt8.toNat_xor, -UInt8.toNat_and, -UInt32.toNat_add, -UInt8.toNat_add, -List.map_take, -List.map_drop, ← List.map_take, ← List.map_drop, -List.length_take, -List.length_drop, -List.map_replicate, rep_pY0, rep_pB0, rep_pI0, e_ref05_Get.eq_1, Try.results65, h, hgN, hx]
    (repeat' (first | exact (show drawD _ _ = true by decide +kernel) | exact (show _ = List.range' _ _ from rfl) | with_reducible refine and_imp_self' ?_ ?_ | with_reducible refine And.intro ?_ ?_ | with_reducible refine @Exists.intro Nat _ (i + 1) ?_ | with_reducible refine Exists.intro (show (_ : Nat) < _ by omega) ?_ | intro _)) <;> (try (first | omega | (unfold fits; omega) | assumption | with_reducible rfl | (simp only [inR_iff, inR_not, fits_iff] at *; omega)))
    · have := hb ‹_›; have := (L[i]).toNat_lt; unfold fits; omega
    · rw [take_succ' ‹_›, beN_append]
    · rw [List.take_of_length_le (by omega)]
  · have g : size < 1 ∨ 4 < size ∨ at' < 0 ∨ b.length - size < at' := by
      have := mt getB_iff.2 h; omega
    simp only [Bool.not_eq_true] at h
    have h0 := getN_zero h
    simp -implicitDefEqProofs +contextual (maxSteps := 4000000) [-Int.not_le, -Int.not_lt, -Nat.not_le, -Nat.not_lt, -UInt32.toNat_or, -UInt32.toNat_xor, -UInt32.toNat_and, -UInt8.toNat_or, -UInt8.toNat_xor, -UInt8.toNat_and, -UInt32.toNat_add, -UInt8.toNat_add, -List.map_take, -List.map_drop, ← List.map_take, ← List.map_drop, -List.length_take, -List.length_drop, -List.map_replicate, rep_pY0, rep_pB0, rep_pI0, e_ref05_Get.eq_1, Try.results65, h, h0]
    (repeat' (first | exact (show drawD _ _ = true by decide +kernel) | exact (show _ = List.range' _ _ from rfl) | with_reducible refine and_imp_self' ?_ ?_ | with_reducible refine And.intro ?_ ?_ | with_reducible refine @Exists.intro Nat _ (i + 1) ?_ | with_reducible refine Exists.intro (show (_ : Nat) < _ by omega) ?_ | intro _)) <;> (try (first | omega | (unfold fits; omega) | assumption | with_reducible rfl | (simp only [inR_iff, inR_not, fits_iff] at *; omega)))

end Go.V
