/- A part of the proof of TableFirst: contracts of functions, or what these lean on. No condition. -/
import Derived.Test.YthbmifpfhdlicaaP6
import Derived.Test.YthbmifpfhdlicaaA14
namespace Go.V
open Go.Proofs
set_option maxRecDepth 8000
set_option linter.unusedSimpArgs false
set_option linter.unusedVariables false
theorem bitAt_test {b : List UInt8} {i : Nat} : bitAt b i = (b.getD (i / 8) 0).toNat.testBit (i % 8) := by unfold bitAt; exact bit_test
theorem unbitsTo_at {b : List UInt8} {n : Nat} : ∀ {i : Nat}, i ≤ n → ∀ k, (unbitsTo b n i)[k]? = if k < i then some (bitAt b k) else if k < n then some false else none
  | 0, _, k => by simp only [unbitsTo, List.range_zero, List.foldl_nil, List.getElem?_replicate, Nat.not_lt_zero, if_false]
  | i + 1, h, k => by
    rw [unbitsTo_succ, List.getElem?_set, unbitsTo_len]
    by_cases e : i = k
    · subst e
      rw [if_pos rfl, if_pos (by omega), if_pos (by omega)]
    · rw [if_neg e, unbitsTo_at (by omega) k]
      by_cases h2 : k < i
      · rw [if_pos h2, if_pos (by omega)]
      · simp [h2, show ¬ k < i + 1 by omega]
theorem unbitsTo_map {b : List UInt8} {n : Nat} : unbitsTo b n n = (List.range n).map (bitAt b) := by
  apply List.ext_getElem?
  intro k
  rw [unbitsTo_at (Nat.le_refl n), List.getElem?_map]
  by_cases h : k < n
  · rw [if_pos h, List.getElem?_range h]; rfl
  · rw [if_neg h, if_neg h, List.getElem?_eq_none (by simpa using h)]; rfl
theorem u8_ext {x y : UInt8} (h : ∀ k, k < 8 → x.toNat.testBit k = y.toNat.testBit k) : x = y := by
  rw [← UInt8.toNat_inj]
  apply Nat.eq_of_testBit_eq
  intro k
  by_cases hk : k < 8
  · exact h k hk
  · have h2 : ∀ z : UInt8, z.toNat.testBit k = false := fun z => by
      apply Nat.testBit_lt_two_pow
      have := z.toNat_lt
      exact Nat.lt_of_lt_of_le this (Nat.pow_le_pow_right (by decide) (by omega : 8 ≤ k))
    rw [h2, h2]
theorem bitsL_unbits {b : List UInt8} {n : Nat} (hl : b.length = (n + 7) / 8) : bitsL (unbitsTo b n n) = b ↔ ∀ k, n ≤ k → k < 8 * b.length → bitAt b k = false := by
  have hu : (unbitsTo b n n).length = n := unbitsTo_len
  have hlen : (bitsL (unbitsTo b n n)).length = b.length := by rw [bitsL_len, hu, hl]
  have key : ∀ j (hj : j < b.length) k, k < 8 → ((bitsL (unbitsTo b n n))[j]'(by omega)).toNat.testBit k = (decide (8 * j + k < n) && bitAt b (8 * j + k)) := by
    intro j hj k hk
    have hjj : j < (bitsTo (unbitsTo b n n) n).length := by rw [bitsTo_len, hu]; omega
    have h1 := bits_at (l := unbitsTo b n n) n j k _ (by omega) hk (List.getElem?_eq_getElem hjj)
    have e : (bitsL (unbitsTo b n n))[j]'(by omega) = (bitsTo (unbitsTo b n n) n)[j]'hjj := by
      congr 1; unfold bitsL; rw [hu]
    rw [e, h1]
    by_cases h2 : 8 * j + k < n
    · rw [List.getD_eq_getElem?_getD, unbitsTo_at (Nat.le_refl n), if_pos h2]; simp [h2]
    · simp [h2]
  have tb : ∀ j (hj : j < b.length) k, k < 8 → b[j].toNat.testBit k = bitAt b (8 * j + k) := by
    intro j hj k hk
    rw [bitAt_test, show (8 * j + k) / 8 = j by omega, show (8 * j + k) % 8 = k by omega, List.getD_eq_getElem?_getD, List.getElem?_eq_getElem hj]; rfl
  constructor
  · intro e k h1 h2
    have hj : k / 8 < b.length := by omega
    have h3 := key (k / 8) hj (k % 8) (Nat.mod_lt _ (by decide))
    rw [show 8 * (k / 8) + k % 8 = k by omega] at h3
    have h4 := tb (k / 8) hj (k % 8) (Nat.mod_lt _ (by decide))
    rw [show 8 * (k / 8) + k % 8 = k by omega] at h4
    have h5 : (bitsL (unbitsTo b n n))[k / 8]'(by omega) = b[k / 8] := by congr 1
    rw [← h4, ← h5, h3]
    simp [show ¬ k < n by omega]
  · intro h
    apply List.ext_getElem hlen
    intro j h1 h2
    apply u8_ext
    intro k hk
    rw [key j h2 k hk, tb j h2 k hk]
    by_cases h3 : 8 * j + k < n
    · simp [h3]
    · rw [h (8 * j + k) (by omega) (by omega)]; simp
theorem unbitsB_iff {b : List UInt8} {m : Nat} (hC : unbitsC b m = true) : unbitsB b m = true ↔ ∀ k, m ≤ k → k < 8 * b.length → bitAt b k = false := by
  have h1 : (b.length : Int) = ((m : Int) + 7) / 8 := by simp [unbitsC] at hC; exact hC.2
  rw [← bitsL_unbits (n := m) (by omega)]
  unfold unbitsB
  rw [hC]; simp
def e_ref05_Bits : (List Bool) → List PV := fun l => [sB l]
noncomputable def g_ref05_Bits : List PV → Option (PV × List PV) := spec e_ref05_Bits (fun l => l.length < 2 ^ 40) fun l => (tY (bitsL l), [])
theorem e_ref05_Bits_inj (a b : (List Bool)) (h : e_ref05_Bits a = e_ref05_Bits b) : a = b := by
  simp [e_ref05_Bits, map_pI_inj, map_pB_inj, map_pY_inj, map_pBand_inj, map_sI_inj, Int.natCast_inj, UInt8.toNat_inj, UInt32.toNat_inj] at h; first | exact h | (simp [h]; done) | exact UInt32.toNat_inj.1 (by omega) | exact UInt8.toNat_inj.1 (by omega) | (simp only [Prod.mk.injEq, ← UInt8.toNat_inj, ← UInt32.toNat_inj] at *; omega) | grind
theorem Ok_ref05_Bits {l : List Bool} {K : PV × List PV → Prop} : Ok (g_ref05_Bits [sB l]) K = ((l.length < 2 ^ 40) ∧ K (tY (bitsL l), [])) := Ok_spec e_ref05_Bits_inj l
set_option maxHeartbeats 1000000 in
theorem impl_ref05_Bits {tbl : Tbl} {G : Nat → Option (List PV)} (hT : Tb tbl G) : Impl Try.prog G 64 (g_ref05_Bits) := by
  refine impl_p (E := En tbl G 32 k_ref05_Bits []) (c := _) hT mixed Try.func64 rfl rfl (fun a => by simp [e_ref05_Bits, pinned.eq_1, pinned.eq_2, PV.isMut.eq_1, PV.isMut.eq_2]) ?_
  rintro l hok
  refine ⟨by simp [e_ref05_Bits], ?_⟩
  replace hok : l.length < 2 ^ 40 := hok
  obtain ⟨m, q0, hm⟩ : ∃ m : Nat, ((l.length : Int) + 7) / 8 = m ∧ m = (l.length + 7) / 8 := ⟨_, by omega, rfl⟩
  simp -implicitDefEqProofs +contextual (maxSteps := 4000000) [-Int.not_le, -Int.not_lt, -Nat.not_le, -Nat.not_lt, -UInt32.toNat_or, -UInt32.toNat_xor, -UInt32.toNat_and, -UInt8.toNat_or, -UInt8.toNat_xor, -UInt8.toNat_and, -UInt32.toNat_add, -UInt8.toNat_add, -List.map_take, -List.map_drop, ← List.map_take, ← List.map_drop, -List.length_take, -List.length_drop, -List.map_replicate, rep_pY0, rep_pB0, rep_pI0, e_ref05_Bits.eq_1, Try.results64, q0]
  (repeat' (first | exact (show drawD _ _ = true by decide +kernel) | exact (show _ = List.range' _ _ from rfl) | with_reducible refine and_imp_self' ?_ ?_ | with_reducible refine And.intro ?_ ?_ | with_reducible refine @Exists.intro Nat _ (i + 1) ?_ | with_reducible refine Exists.intro (show (_ : Nat) < _ by omega) ?_ | intro _)) <;> (try (first | omega | (unfold fits; omega) | assumption | with_reducible rfl | (simp only [inR_iff, inR_not, fits_iff] at *; omega)))
  refine loopo (fun i => i ≤ l.length)
    (fun i => [(0, .val (sB l), 0, 0), (3, .val (tY (bitsTo l i)), 0, 0), (4, .val (pI i), 0, 0)])
    (fun i => l.length - i) ?_ (s := 0) ?_ ?_
  rotate_left
  · simp [bitsTo, hm]
  · simp
  intro i hi
  obtain ⟨q, q1, hq⟩ : ∃ q : Nat, (i : Int) / 8 = q ∧ q = i / 8 := ⟨_, by omega, rfl⟩
  obtain ⟨r, q2, hr⟩ : ∃ r : Nat, (i : Int) % 8 = r ∧ r = i % 8 := ⟨_, by omega, rfl⟩
  have hw : IntKind.u64.wrap (r : Int) = r := wrapU64 (by omega)
  simp -implicitDefEqProofs +contextual (maxSteps := 4000000) [-Int.not_le, -Int.not_lt, -Nat.not_le, -Nat.not_lt, -UInt32.toNat_or, -UInt32.toNat_xor, -UInt32.toNat_and, -UInt8.toNat_or, -UInt8.toNat_xor, -UInt8.toNat_and, -UInt32.toNat_add, -UInt8.toNat_add, -List.map_take, -List.map_drop, ← List.map_take, ← List.map_drop, -List.length_take, -List.length_drop, -List.map_replicate, rep_pY0, rep_pB0, rep_pI0, e_ref05_Bits.eq_1, Try.results64, q1, q2, hw, bitsTo_len]
  (repeat' (first | exact (show drawD _ _ = true by decide +kernel) | exact (show _ = List.range' _ _ from rfl) | with_reducible refine and_imp_self' ?_ ?_ | with_reducible refine And.intro ?_ ?_ | with_reducible refine @Exists.intro Nat _ (i + 1) ?_ | with_reducible refine Exists.intro (show (_ : Nat) < _ by omega) ?_ | intro _)) <;> (try (first | omega | (unfold fits; omega) | assumption | with_reducible rfl | (simp only [inR_iff, inR_not, fits_iff] at *; omega)))
  · have h1 : l.getD i false = true := by simp [List.getD_eq_getElem?_getD, ‹i < l.length›, ‹l[i] = true›]
    rw [bitsTo_succ, bitStep, if_pos h1, ← hq, ← hr, ← set_modify (by rw [bitsTo_len]; omega), List.map_set]
  · have h1 : ¬ l.getD i false = true := by simp [List.getD_eq_getElem?_getD, ‹i < l.length›, ‹l[i] = false›]
    rw [bitsTo_succ, bitStep, if_neg h1]
  · obtain rfl : i = l.length := by omega
    rfl
def unbR (b : List UInt8) (m i : Nat) : List Bool := (List.range (min i m)).map (bitAt b)
theorem unbR_succ {b : List UInt8} {m i : Nat} (h : i < m) : unbR b m (i + 1) = unbR b m i ++ [bitAt b i] := by
  unfold unbR; rw [show min (i + 1) m = i + 1 by omega, show min i m = i by omega, List.range_succ, List.map_append]; rfl
theorem unbR_stop {b : List UInt8} {m i : Nat} (h : m ≤ i) : unbR b m (i + 1) = unbR b m i := by
  unfold unbR; rw [show min (i + 1) m = m by omega, show min i m = m by omega]
theorem unbR_len {b : List UInt8} {m i : Nat} : (unbR b m i).length ≤ i := by unfold unbR; rw [List.length_map, List.length_range]; omega
theorem unbR_end {b : List UInt8} {m i : Nat} (h : m ≤ i) : unbR b m i = unbitsTo b m m := by rw [unbitsTo_map]; unfold unbR; rw [show min i m = m by omega]
def e_ref05_Unbits : (List UInt8) × Int → List PV := fun (b, n) => [sY b, pI n]
noncomputable def g_ref05_Unbits : List PV → Option (PV × List PV) := spec e_ref05_Unbits (fun (b, n) => b.length < 2 ^ 36) fun (b, n) => (.tup [tB (unbitsL b n), pB (unbitsB b n)], [])
theorem e_ref05_Unbits_inj (a b : (List UInt8) × Int) (h : e_ref05_Unbits a = e_ref05_Unbits b) : a = b := by
  obtain ⟨b1, n1⟩ := a; obtain ⟨b2, n2⟩ := b; simp [e_ref05_Unbits, map_pI_inj, map_pB_inj, map_pY_inj, map_pBand_inj, map_sI_inj, Int.natCast_inj, UInt8.toNat_inj, UInt32.toNat_inj] at h; first | exact h | (simp [h]; done) | exact UInt32.toNat_inj.1 (by omega) | exact UInt8.toNat_inj.1 (by omega) | (simp only [Prod.mk.injEq, ← UInt8.toNat_inj, ← UInt32.toNat_inj] at *; omega) | grind
theorem Ok_ref05_Unbits {b : List UInt8} {n : Int} {K : PV × List PV → Prop} : Ok (g_ref05_Unbits [sY b, pI n]) K = ((b.length < 2 ^ 36) ∧ K (.tup [tB (unbitsL b n), pB (unbitsB b n)], [])) := Ok_spec e_ref05_Unbits_inj (b, n)
set_option maxHeartbeats 1000000 in
theorem impl_ref05_Unbits {tbl : Tbl} {G : Nat → Option (List PV)} (hT : Tb tbl G) : Impl Try.prog G 66 (g_ref05_Unbits) := by
  refine impl_p (E := En tbl G 53 k_ref05_Unbits []) (c := _) hT mixed Try.func66 rfl rfl (fun a => by simp [e_ref05_Unbits, pinned.eq_1, pinned.eq_2, PV.isMut.eq_1, PV.isMut.eq_2]) ?_
  rintro ⟨b, n⟩ hok
  refine ⟨by simp [e_ref05_Unbits], ?_⟩
  replace hok : b.length < 2 ^ 36 := hok
  by_cases h : unbitsC b n = true
  · have h1 : 0 ≤ n ∧ n ≤ 8 * b.length ∧ (b.length : Int) = (n + 7) / 8 := by simpa [unbitsC, and_assoc] using h
    obtain ⟨h1, h2, h3⟩ := h1
    obtain ⟨m, rfl⟩ := Int.eq_ofNat_of_zero_le h1
    have g1 : ¬ (m : Int) < 0 := by omega
    have g2 : ¬ 8 * (b.length : Int) < m := by omega
    simp -implicitDefEqProofs +contextual (maxSteps := 4000000) [-Int.not_le, -Int.not_lt, -Nat.not_le, -Nat.not_lt, -UInt32.toNat_or, -UInt32.toNat_xor, -UInt32.toNat_and, -UInt8.toNat_or, -UInt8.toNat_xor, -UInt8.toNat_and, -UInt32.toNat_add, -UInt8.toNat_add, -List.map_take, -List.map_drop, ← List.map_take, ← List.map_drop, -List.length_take, -List.length_drop, -List.map_replicate, rep_pY0, rep_pB0, rep_pI0, e_ref05_Unbits.eq_1, Try.results66, g1, g2, ← h3]
    (repeat' (first | exact (show drawD _ _ = true by decide +kernel) | exact (show _ = List.range' _ _ from rfl) | with_reducible refine and_imp_self' ?_ ?_ | with_reducible refine And.intro ?_ ?_ | with_reducible refine @Exists.intro Nat _ (i + 1) ?_ | with_reducible refine Exists.intro (show (_ : Nat) < _ by omega) ?_ | intro _)) <;> (try (first | omega | (unfold fits; omega) | assumption | with_reducible rfl | (simp only [inR_iff, inR_not, fits_iff] at *; omega)))
    refine loopo (fun i => i ≤ 8 * b.length ∧ ∀ k, m ≤ k → k < i → bitAt b k = false)
      (fun i => [(0, .val (sY b), 0, 0), (1, .val (pI m), 0, 0), (6, .val (tB (unbR b m i)), 0, 0), (7, .val (pI i), 0, 0)])
      (fun i => 8 * b.length - i) ?_ (s := 0) ?_ ?_
    rotate_left
    · simp [unbR]
    · simp
    rintro i ⟨hi, hz⟩
    obtain ⟨q, q1, hq⟩ : ∃ q : Nat, (i : Int) / 8 = q ∧ q = i / 8 := ⟨_, by omega, rfl⟩
    obtain ⟨r, q2, hr⟩ : ∃ r : Nat, (i : Int) % 8 = r ∧ r = i % 8 := ⟨_, by omega, rfl⟩
    have hw : IntKind.u64.wrap (r : Int) = r := wrapU64 (by omega)
    have hx : ∀ hq : q < b.length, decide (((by8 (((b[q]).toNat : Int) / 2 ^ r) &&& 1).toNat : Int) = 1) = bitAt b i := fun h0 => by
      unfold bitAt
      rw [← hq, ← hr, List.getD_eq_getElem?_getD, List.getElem?_eq_getElem h0]; rfl
    have hul := unbR_len (b := b) (m := m) (i := i)
    simp -implicitDefEqProofs +contextual (maxSteps := 4000000) [-Int.not_le, -Int.not_lt, -Nat.not_le, -Nat.not_lt, -UInt32.toNat_or, -UInt32.toNat_xor, -UInt32.toNat_and, -UInt8.toNat_or, -UInt8.toNat_xor, -UInt8.toNat_and, -UInt32.toNat_add, -UInt8.toNat_add, -List.map_take, -List.map_drop, ← List.map_take, ← List.map_drop, -List.length_take, -List.length_drop, -List.map_replicate, rep_pY0, rep_pB0, rep_pI0, e_ref05_Unbits.eq_1, Try.results66, q1, q2, hw, hx]
    refine ⟨by unfold fits; omega, fun _ => ⟨fun a => ⟨by unfold fits; omega, fun _ => ⟨by omega, fun _ => ⟨by omega, fun _ => ⟨fun c1 => ⟨by omega, fun _ => ⟨by unfold fits; omega, fun _ => ⟨i + 1, ⟨by omega, fun k k1 k2 => by omega⟩, by omega, by rw [unbR_succ c1, List.map_append]; rfl, by omega⟩⟩⟩,
      fun c1 => ⟨fun c2 => ?_, fun c2 => ⟨by unfold fits; omega, fun _ => ⟨i + 1, ⟨by omega, fun k k1 k2 => ?_⟩, by omega, by rw [unbR_stop (by omega)], by omega⟩⟩⟩⟩⟩⟩⟩, fun a => ?_⟩⟩
    · have hB : unbitsB b m = false := by
        rw [← Bool.not_eq_true, unbitsB_iff h]
        intro hh
        rw [hh i (by omega) (by omega)] at c2
        cases c2
      exact ⟨by rw [unbitsL, if_neg (by simp [hB])], hB⟩
    · rcases (show k < i ∨ k = i by omega) with k3 | rfl
      · exact hz k k1 k3
      · exact c2
    · have hB : unbitsB b m = true := (unbitsB_iff h).2 fun k k1 k2 => hz k k1 (by omega)
      exact ⟨by rw [unbR_end (by omega), unbitsL, if_pos hB]; rfl, hB⟩
  · have g : n < 0 ∨ 8 * (b.length : Int) < n ∨ ¬ (n + 7) / 8 = (b.length : Int) := by
      have h' : ¬ (0 ≤ n ∧ n ≤ 8 * b.length ∧ (b.length : Int) = (n + 7) / 8) := by simpa [unbitsC, and_assoc] using h
      omega
    have hB : unbitsB b n = false := by simp [unbitsB, h]
    simp -implicitDefEqProofs +contextual (maxSteps := 4000000) [-Int.not_le, -Int.not_lt, -Nat.not_le, -Nat.not_lt, -UInt32.toNat_or, -UInt32.toNat_xor, -UInt32.toNat_and, -UInt8.toNat_or, -UInt8.toNat_xor, -UInt8.toNat_and, -UInt32.toNat_add, -UInt8.toNat_add, -List.map_take, -List.map_drop, ← List.map_take, ← List.map_drop, -List.length_take, -List.length_drop, -List.map_replicate, rep_pY0, rep_pB0, rep_pI0, e_ref05_Unbits.eq_1, Try.results66, hB, unbitsL.eq_1]
    (repeat' (first | exact (show drawD _ _ = true by decide +kernel) | exact (show _ = List.range' _ _ from rfl) | with_reducible refine and_imp_self' ?_ ?_ | with_reducible refine And.intro ?_ ?_ | with_reducible refine @Exists.intro Nat _ (i + 1) ?_ | with_reducible refine Exists.intro (show (_ : Nat) < _ by omega) ?_ | intro _)) <;> (try (first | omega | (unfold fits; omega) | assumption | with_reducible rfl | (simp only [inR_iff, inR_not, fits_iff] at *; omega)))

end Go.V
