/- A part of the proof of TableFirst: contracts of functions, or what these lean on. No condition. -/
import Derived.Test.YthbmifpfhdlicaaA1
import Derived.Test.YthbmifpfhdlicaaA2c
import Derived.Test.YthbmifpfhdlicaaVEq
namespace Go.V
open Go.Proofs
set_option maxRecDepth 8000
set_option linter.unusedSimpArgs false
set_option linter.unusedVariables false
def beN (l : List UInt8) : Int := l.foldl (fun v c => v * 256 + c.toNat) 0
theorem beN_append {l : List UInt8} {c : UInt8} : beN (l ++ [c]) = beN l * 256 + c.toNat := by simp [beN]
theorem beN_lt {l : List UInt8} (h : l.length ≤ 3) : 0 ≤ beN l ∧ beN l < 16777216 := by
  match l, h with
  | [], _ => simp [beN]
  | [a], _ => have := a.toNat_lt; simp [beN]; omega
  | [a, b], _ => have := a.toNat_lt; have := b.toNat_lt; simp [beN]; omega
  | [a, b, c], _ => have := a.toNat_lt; have := b.toNat_lt; have := c.toNat_lt; simp [beN]; omega
theorem or_byte {v : Int} {c : UInt8} (h : 0 ≤ v) : (((v * 256).toNat ||| c.toNat : Nat) : Int) = v * 256 + c.toNat := by
  have h1 : (v * 256).toNat = v.toNat <<< 8 := by rw [Nat.shiftLeft_eq]; omega
  rw [h1, ← Nat.shiftLeft_add_eq_or_of_lt (by have := c.toNat_lt; omega), Nat.shiftLeft_eq]
  omega
def getB (b : List UInt8) (at' size : Int) : Bool := decide (1 ≤ size) && decide (size ≤ 4) && decide (0 ≤ at') && decide (at' ≤ b.length - size)
def getN (b : List UInt8) (at' size : Int) : Int := if getB b at' size = true then beN ((b.drop at'.toNat).take size.toNat) else 0
theorem getB_iff {b : List UInt8} {x n : Int} : getB b x n = true ↔ 1 ≤ n ∧ n ≤ 4 ∧ 0 ≤ x ∧ x ≤ b.length - n := by simp [getB, and_assoc]
def e_pack_Get : (List UInt8) × Int × Int → List PV := fun (b, at', size) => [sY b, pI at', pI size]
noncomputable def g_pack_Get : List PV → Option (PV × List PV) := spec e_pack_Get (fun (b, at', size) => b.length < 2 ^ 62) fun (b, at', size) => (.tup [pI (getN b at' size), pB (getB b at' size)], [])
theorem e_pack_Get_inj (a b : (List UInt8) × Int × Int) (h : e_pack_Get a = e_pack_Get b) : a = b := by
  obtain ⟨b1, at'1, size1⟩ := a; obtain ⟨b2, at'2, size2⟩ := b; simp [e_pack_Get, map_pI_inj, map_pB_inj, map_pY_inj, map_pBand_inj, map_sI_inj, Int.natCast_inj, UInt8.toNat_inj, UInt32.toNat_inj] at h; first | exact h | (simp [h]; done) | exact UInt32.toNat_inj.1 (by omega) | exact UInt8.toNat_inj.1 (by omega) | (simp only [Prod.mk.injEq, ← UInt8.toNat_inj, ← UInt32.toNat_inj] at *; omega) | grind
theorem Ok_pack_Get {b : List UInt8} {at' : Int} {size : Int} {K : PV × List PV → Prop} : Ok (g_pack_Get [sY b, pI at', pI size]) K = ((b.length < 2 ^ 62) ∧ K (.tup [pI (getN b at' size), pB (getB b at' size)], [])) := Ok_spec e_pack_Get_inj (b, at', size)
set_option maxHeartbeats 1000000 in
theorem impl_pack_Get {tbl : Tbl} {G : Nat → Option (List PV)} (hT : Tb tbl G) : Impl Try.prog G 58 (g_pack_Get) := by
  refine impl_p (E := En tbl G 47 k_pack_Get []) (c := _) hT mixed Try.func58 rfl rfl (fun a => by simp [e_pack_Get, pinned.eq_1, pinned.eq_2, PV.isMut.eq_1, PV.isMut.eq_2]) ?_
  rintro ⟨b, at', size⟩ hok
  refine ⟨by simp [e_pack_Get], ?_⟩
  replace hok : b.length < 2 ^ 62 := hok
  by_cases h : getB b at' size = true
  · obtain ⟨h1, h2, h3, h4⟩ := getB_iff.1 h
    have g1 : ¬ size < 1 := by omega
    have g2 : ¬ 4 < size := by omega
    have g3 : ¬ at' < 0 := by omega
    have g4 : ¬ (b.length - size < at') := by omega
    have g5 : (at' + size).toNat - at'.toNat = size.toNat := by omega
    simp -implicitDefEqProofs +contextual (maxSteps := 4000000) [-Int.not_le, -Int.not_lt, -Nat.not_le, -Nat.not_lt, -UInt32.toNat_or, -UInt32.toNat_xor, -UInt32.toNat_and, -UInt8.toNat_or, -UInt8.toNat_xor, -UInt8.toNat_and, -UInt32.toNat_add, -UInt8.toNat_add, -List.map_take, -List.map_drop, ← List.map_take, ← List.map_drop, -List.length_take, -List.length_drop, -List.map_replicate, rep_pY0, rep_pB0, rep_pI0, e_pack_Get.eq_1, Try.results58, h, g1, g2, g3, g4, g5, getN.eq_1]
    refine ⟨by unfold fits; omega, fun _ => ⟨by unfold fits; omega, fun _ => ⟨by omega, fun _ _ _ => ?_⟩⟩⟩
    have hlen : ((b.drop at'.toNat).take size.toNat).length ≤ 4 := by rw [List.length_take]; omega
    generalize hL : (b.drop at'.toNat).take size.toNat = L at hlen ⊢
    refine loopo (fun i => i ≤ L.length)
      (fun i => [(0, .val (sY b), 0, 0), (8, .val (pI (beN (L.take i))), 0, 0), (29, .val (sY b), 0, 0), (34, .val (sY L), 0, 0), (35, .val (pI L.length), 0, 0), (36, .val (pI i), 0, 0)])
      (fun i => L.length - i) ?_ (s := 0) rfl (by simp)
    intro i hi
    simp -implicitDefEqProofs +contextual (maxSteps := 4000000) [-Int.not_le, -Int.not_lt, -Nat.not_le, -Nat.not_lt, -UInt32.toNat_or, -UInt32.toNat_xor, -UInt32.toNat_and, -UInt8.toNat_or, -UInt8.toNat_xor, -UInt8.toNat_and, -UInt32.toNat_add, -UInt8.toNat_add, -List.map_take, -List.map_drop, ← List.map_take, ← List.map_drop, -List.length_take, -List.length_drop, -List.map_replicate, rep_pY0, rep_pB0, rep_pI0, e_pack_Get.eq_1, Try.results58, h, getN.eq_1, hL]
    have hb : i < L.length → 0 ≤ beN (L.take i) ∧ beN (L.take i) < 16777216 := fun h => beN_lt (by rw [List.length_take]; omega)
    (repeat' (first | exact (show drawD _ _ = true by decide +kernel) | exact (show _ = List.range' _ _ from rfl) | with_reducible refine and_imp_self' ?_ ?_ | with_reducible refine And.intro ?_ ?_ | with_reducible refine @Exists.intro Nat _ (i + 1) ?_ | with_reducible refine Exists.intro (show (_ : Nat) < _ by omega) ?_ | intro _)) <;> (try (first | omega | (unfold fits; omega) | assumption | with_reducible rfl | (simp only [inR_iff, inR_not, fits_iff] at *; omega)))
    · rw [or_byte (hb ‹_›).1, take_succ' ‹_›, beN_append]
    · rw [List.take_of_length_le (by omega)]
  · have g : size < 1 ∨ 4 < size ∨ at' < 0 ∨ b.length - size < at' := by
      have := mt getB_iff.2 h; omega
    simp only [Bool.not_eq_true] at h
    simp -implicitDefEqProofs +contextual (maxSteps := 4000000) [-Int.not_le, -Int.not_lt, -Nat.not_le, -Nat.not_lt, -UInt32.toNat_or, -UInt32.toNat_xor, -UInt32.toNat_and, -UInt8.toNat_or, -UInt8.toNat_xor, -UInt8.toNat_and, -UInt32.toNat_add, -UInt8.toNat_add, -List.map_take, -List.map_drop, ← List.map_take, ← List.map_drop, -List.length_take, -List.length_drop, -List.map_replicate, rep_pY0, rep_pB0, rep_pI0, e_pack_Get.eq_1, Try.results58, h, getN.eq_1]
    (repeat' (first | exact (show drawD _ _ = true by decide +kernel) | exact (show _ = List.range' _ _ from rfl) | with_reducible refine and_imp_self' ?_ ?_ | with_reducible refine And.intro ?_ ?_ | with_reducible refine @Exists.intro Nat _ (i + 1) ?_ | with_reducible refine Exists.intro (show (_ : Nat) < _ by omega) ?_ | intro _)) <;> (try (first | omega | (unfold fits; omega) | assumption | with_reducible rfl | (simp only [inR_iff, inR_not, fits_iff] at *; omega)))
def bitStep (l : List Bool) (out : List UInt8) (i : Nat) : List UInt8 := if l.getD i false = true then out.modify (i / 8) (fun x => x ||| by8 (2 ^ (i % 8))) else out
def bitsTo (l : List Bool) (i : Nat) : List UInt8 := (List.range i).foldl (bitStep l) (List.replicate ((l.length + 7) / 8) 0)
def bitsL (l : List Bool) : List UInt8 := bitsTo l l.length
theorem bitsTo_succ {l : List Bool} {i : Nat} : bitsTo l (i + 1) = bitStep l (bitsTo l i) i := foldl_range
theorem bitsTo_len {l : List Bool} {i : Nat} : (bitsTo l i).length = (l.length + 7) / 8 := by
  induction i with
  | zero => simp [bitsTo]
  | succ i ih => rw [bitsTo_succ]; unfold bitStep; split <;> simp [ih]
def e_pack_Bits : (List Bool) → List PV := fun l => [sB l]
noncomputable def g_pack_Bits : List PV → Option (PV × List PV) := spec e_pack_Bits (fun l => l.length < 2 ^ 40) fun l => (tY (bitsL l), [])
theorem e_pack_Bits_inj (a b : (List Bool)) (h : e_pack_Bits a = e_pack_Bits b) : a = b := by
  simp [e_pack_Bits, map_pI_inj, map_pB_inj, map_pY_inj, map_pBand_inj, map_sI_inj, Int.natCast_inj, UInt8.toNat_inj, UInt32.toNat_inj] at h; first | exact h | (simp [h]; done) | exact UInt32.toNat_inj.1 (by omega) | exact UInt8.toNat_inj.1 (by omega) | (simp only [Prod.mk.injEq, ← UInt8.toNat_inj, ← UInt32.toNat_inj] at *; omega) | grind
theorem Ok_pack_Bits {l : List Bool} {K : PV × List PV → Prop} : Ok (g_pack_Bits [sB l]) K = ((l.length < 2 ^ 40) ∧ K (tY (bitsL l), [])) := Ok_spec e_pack_Bits_inj l
set_option maxHeartbeats 1000000 in
theorem impl_pack_Bits {tbl : Tbl} {G : Nat → Option (List PV)} (hT : Tb tbl G) (h_pack_length : tbl 93 = g_pack_length) : Impl Try.prog G 54 (g_pack_Bits) := by
  refine impl_p (E := En tbl G 30 k_pack_Bits []) (c := _) hT mixed Try.func54 rfl rfl (fun a => by simp [e_pack_Bits, pinned.eq_1, pinned.eq_2, PV.isMut.eq_1, PV.isMut.eq_2]) ?_
  rintro l hok
  refine ⟨by simp [e_pack_Bits], ?_⟩
  replace hok : l.length < 2 ^ 40 := hok
  obtain ⟨m, q0, hm⟩ : ∃ m : Nat, ((l.length : Int) + 7) / 8 = m ∧ m = (l.length + 7) / 8 := ⟨_, by omega, rfl⟩
  simp -implicitDefEqProofs +contextual (maxSteps := 4000000) [-Int.not_le, -Int.not_lt, -Nat.not_le, -Nat.not_lt, -UInt32.toNat_or, -UInt32.toNat_xor, -UInt32.toNat_and, -UInt8.toNat_or, -UInt8.toNat_xor, -UInt8.toNat_and, -UInt32.toNat_add, -UInt8.toNat_add, -List.map_take, -List.map_drop, ← List.map_take, ← List.map_drop, -List.length_take, -List.length_drop, -List.map_replicate, rep_pY0, rep_pB0, rep_pI0, e_pack_Bits.eq_1, Try.results54, h_pack_length, Ok_pack_length, q0]
  refine ⟨by omega, ⟨by omega, by omega⟩, fun _ _ => ?_⟩
  refine loopo (fun i => i ≤ l.length)
    (fun i => [(0, .val (sB l), 0, 0), (3, .val (tY (bitsTo l i)), 0, 0), (10, .val (sB l), 0, 0), (11, .val (pI l.length), 0, 0), (12, .val (pI i), 0, 0)])
    (fun i => l.length - i) ?_ (s := 0) ?_ ?_
  rotate_left
  · simp [bitsTo, hm]
  · simp
  intro i hi
  obtain ⟨q, q1, hq⟩ : ∃ q : Nat, (i : Int) / 8 = q ∧ q = i / 8 := ⟨_, by omega, rfl⟩
  obtain ⟨r, q2, hr⟩ : ∃ r : Nat, (i : Int) % 8 = r ∧ r = i % 8 := ⟨_, by omega, rfl⟩
  simp -implicitDefEqProofs +contextual (maxSteps := 4000000) [-Int.not_le, -Int.not_lt, -Nat.not_le, -Nat.not_lt, -UInt32.toNat_or, -UInt32.toNat_xor, -UInt32.toNat_and, -UInt8.toNat_or, -UInt8.toNat_xor, -UInt8.toNat_and, -UInt32.toNat_add, -UInt8.toNat_add, -List.map_take, -List.map_drop, ← List.map_take, ← List.map_drop, -List.length_take, -List.length_drop, -List.map_replicate, rep_pY0, rep_pB0, rep_pI0, e_pack_Bits.eq_1, Try.results54, h_pack_length, Ok_pack_length, q1, q2, bitsTo_len]
  (repeat' (first | exact (show drawD _ _ = true by decide +kernel) | exact (show _ = List.range' _ _ from rfl) | with_reducible refine and_imp_self' ?_ ?_ | with_reducible refine And.intro ?_ ?_ | with_reducible refine @Exists.intro Nat _ (i + 1) ?_ | with_reducible refine Exists.intro (show (_ : Nat) < _ by omega) ?_ | intro _)) <;> (try (first | omega | (unfold fits; omega) | assumption | with_reducible rfl | (simp only [inR_iff, inR_not, fits_iff] at *; omega)))
  · have h1 : l.getD i false = true := by simp [List.getD_eq_getElem?_getD, ‹i < l.length›, ‹l[i] = true›]
    rw [bitsTo_succ, bitStep, if_pos h1, ← hq, ← hr, ← set_modify (by rw [bitsTo_len]; omega), List.map_set]
  · have h1 : ¬ l.getD i false = true := by simp [List.getD_eq_getElem?_getD, ‹i < l.length›, ‹l[i] = false›]
    rw [bitsTo_succ, bitStep, if_neg h1]
  · obtain rfl : i = l.length := by omega
    rfl

end Go.V
