/- A part of the proof of TableFirst: contracts of functions, or what these lean on. No condition. -/
import Derived.Test.YthbmifpfhdlicaaA9
import Derived.Test.YthbmifpfhdlicaaA4
import Derived.Test.YthbmifpfhdlicaaVArr
import Derived.Test.YthbmifpfhdlicaaA8
namespace Go.V
open Go.Proofs
set_option maxRecDepth 8000
set_option linter.unusedSimpArgs false
set_option linter.unusedVariables false
def byB (b : List UInt8) (i : Nat) : Int := (b.getD i 0).toNat
theorem byB_eq {b : List UInt8} {i : Nat} (h : i < b.length) : ((b[i]).toNat : Int) = byB b i := by
  unfold byB; rw [List.getD_eq_getElem?_getD, List.getElem?_eq_getElem h]; rfl
theorem byB_r {b : List UInt8} {i : Nat} : 0 ≤ byB b i ∧ byB b i ≤ 255 := by
  unfold byB; have := (b.getD i 0).toNat_lt; omega
def mrk (b : List UInt8) : Bool := b.take 4 == [66, 82, 75, 49]
def decC (b : List UInt8) : Bool := inR (byB b 4) 1 8 && inR (byB b 5) 1 5 && inR (byB b 6) 1 60 && decide (lenV (byB b 4) (byB b 5) (byB b 6) = b.length)
def dAt (b : List UInt8) (s : Nat) : Nat := 7 + 4 * (byB b 6).toNat + (byB b 4).toNat * s
def dB (i : Nat) : Nat := 7 + 4 * i
def decBand (b : List UInt8) (i : Nat) : Int × Int := (getN b (dB i) 3, byB b (dB i + 3))
def decBs (b : List UInt8) (i : Nat) : List (Int × Int) := (List.range i).map (decBand b)
theorem decBs_len {b : List UInt8} {i : Nat} : (decBs b i).length = i := by simp [decBs]
theorem decBs_succ {b : List UInt8} {i : Nat} : decBs b (i + 1) = decBs b i ++ [decBand b i] := by simp [decBs, List.range_succ]
def rowB (b : List UInt8) (s : Nat) : List UInt8 := (b.drop (dAt b s)).take (byB b 4).toNat
def nums (l : List UInt8) : List Int := l.map fun x => (x.toNat : Int)
def decRow (b : List UInt8) (s : Nat) : List Int := nums (rowB b s)
theorem dAt_succ {b : List UInt8} {s : Nat} : dAt b (s + 1) = dAt b s + (byB b 4).toNat := by unfold dAt; rw [Nat.mul_add]; omega
theorem dAt_le {b : List UInt8} {s n : Nat} (h : s ≤ n) : dAt b s ≤ dAt b n := by unfold dAt; have := Nat.mul_le_mul_left (byB b 4).toNat h; omega
def decRs (b : List UInt8) (i : Nat) : List (List Int) := (List.range i).map (decRow b)
theorem decRs_len {b : List UInt8} {i : Nat} : (decRs b i).length = i := by simp [decRs]
theorem decRs_succ {b : List UInt8} {i : Nat} : decRs b (i + 1) = decRs b i ++ [decRow b i] := by simp [decRs, List.range_succ]
def decTail (b : List UInt8) : List UInt8 := (b.drop (dAt b (byB b 5).toNat)).take (b.length - 4 - dAt b (byB b 5).toNat)
def decT (b : List UInt8) : Tab := ⟨byB b 4, decBs b (byB b 6).toNat, decRs b (byB b 5).toNat, unbitsL (decTail b) (byB b 5)⟩
def decE (b : List UInt8) : Int := if b.length < 11 then 21 else if mrk b = false then 22 else if sealedB b = false then 23 else if decC b = false then 24 else if unbitsB (decTail b) (byB b 5) = false then 25 else 0
def dec (b : List UInt8) : Tab := if decE b = 0 then decT b else ⟨0, [], [], []⟩
def mrk4 (a b c d : UInt8) : Bool := [a, b, c, d] == [66, 82, 75, 49]
theorem mark4 {x y : Operand} {a b c d : UInt8} : binP Try.prog .neq 86 x y (.agg #[.int .u8 a.toNat, .int .u8 b.toNat, .int .u8 c.toNat, .int .u8 d.toNat]) (.agg #[.int .u8 66, .int .u8 82, .int .u8 75, .int .u8 49]) = some (pB (!mrk4 a b c d)) := by
  rw [neq_mark]
  have h : ∀ (u v : UInt8), ((u.toNat : Int) == (v.toNat : Int)) = (u == v) := by
    intro u v
    rw [Bool.eq_iff_iff, beq_iff_eq, beq_iff_eq, ← UInt8.toNat_inj]; omega
  have h66 := h a 66
  have h82 := h b 82
  have h75 := h c 75
  have h49 := h d 49
  simp only [UInt8.reduceToNat, Int.cast_ofNat_Int] at h66 h82 h75 h49
  rw [h66, h82, h75, h49]
  simp [mrk4]
theorem c1_prim {v : Value} : (PV.prim v).cell1 = true := rfl
theorem four {b : List UInt8} (h : 4 ≤ b.length) : ∃ b0 b1 b2 b3, b.take 4 = [b0, b1, b2, b3] := by
  match b, h with
  | b0 :: b1 :: b2 :: b3 :: l, _ => exact ⟨b0, b1, b2, b3, rfl⟩
def e_table_Decode : (List UInt8) → List PV := fun b => [sY b]
noncomputable def g_table_Decode : List PV → Option (PV × List PV) := spec e_table_Decode (fun b => b.length < 2 ^ 30) fun b => (.tup [oT (dec b), pI (decE b)], [])
theorem e_table_Decode_inj (a b : (List UInt8)) (h : e_table_Decode a = e_table_Decode b) : a = b := by
  simp [e_table_Decode, map_pI_inj, map_pB_inj, map_pY_inj, map_pBand_inj, map_sI_inj, Int.natCast_inj, UInt8.toNat_inj, UInt32.toNat_inj] at h; first | exact h | (simp [h]; done) | exact UInt32.toNat_inj.1 (by omega) | exact UInt8.toNat_inj.1 (by omega) | (simp only [Prod.mk.injEq, ← UInt8.toNat_inj, ← UInt32.toNat_inj] at *; omega) | grind
theorem Ok_table_Decode {b : List UInt8} {K : PV × List PV → Prop} : Ok (g_table_Decode [sY b]) K = ((b.length < 2 ^ 30) ∧ K (.tup [oT (dec b), pI (decE b)], [])) := Ok_spec e_table_Decode_inj b
set_option maxHeartbeats 2000000 in
theorem impl_table_Decode {tbl : Tbl} {G : Nat → Option (List PV)} (hT : Tb tbl G) (h_table_Length : tbl 22 = g_table_Length) (h_table_known : tbl 52 = g_table_known) (h_table_between : tbl 56 = g_table_between) (h_table_sealed : tbl 57 = g_table_sealed) (h_pack_Get : tbl 58 = g_pack_Get) (h_pack_Unbits : tbl 59 = g_pack_Unbits) : Impl Try.prog G 23 (g_table_Decode) := by
  refine impl_p (E := En tbl G 145 k_table_Decode []) (c := _) hT mixed Try.func23 rfl rfl (fun a => by simp [e_table_Decode, pinned.eq_1, pinned.eq_2, PV.isMut.eq_1, PV.isMut.eq_2]) ?_
  rintro b hok
  refine ⟨by simp [e_table_Decode], ?_⟩
  replace hok : b.length < 2 ^ 30 := hok
  by_cases h1 : b.length < 11
  · have hE : decE b = 21 := by simp [decE, h1]
    have hV : dec b = ⟨0, [], [], []⟩ := by simp [dec, hE]
    have h1' : (b.length : Int) < 11 := by omega
    simp -implicitDefEqProofs +contextual (maxSteps := 4000000) [-Int.not_le, -Int.not_lt, -Nat.not_le, -Nat.not_lt, -UInt32.toNat_or, -UInt32.toNat_xor, -UInt32.toNat_and, -UInt8.toNat_or, -UInt8.toNat_xor, -UInt8.toNat_and, -UInt32.toNat_add, -UInt8.toNat_add, -List.map_take, -List.map_drop, ← List.map_take, ← List.map_drop, -List.length_take, -List.length_drop, -List.map_replicate, rep_pY0, rep_pB0, rep_pI0, e_table_Decode.eq_1, Try.results23, h_table_Length, Ok_table_Length, h_table_known, Ok_table_known, h_table_between, Ok_table_between, h_table_sealed, Ok_table_sealed, h_pack_Get, Ok_pack_Get, h_pack_Unbits, Ok_pack_Unbits, hE, hV, h1']
  have h1' : ¬ (b.length : Int) < 11 := by omega
  obtain ⟨b0, b1, b2, b3, ht⟩ := four (b := b) (by omega)
  have hm : mrk4 b0 b1 b2 b3 = mrk b := by rw [mrk, ht]; rfl
  cases h2 : mrk b
  · rw [h2] at hm
    have hE : decE b = 22 := by simp [decE, h1, h2]
    have hV : dec b = ⟨0, [], [], []⟩ := by simp [dec, hE]
    simp -implicitDefEqProofs +contextual (maxSteps := 4000000) [-Int.not_le, -Int.not_lt, -Nat.not_le, -Nat.not_lt, -UInt32.toNat_or, -UInt32.toNat_xor, -UInt32.toNat_and, -UInt8.toNat_or, -UInt8.toNat_xor, -UInt8.toNat_and, -UInt32.toNat_add, -UInt8.toNat_add, -List.map_take, -List.map_drop, ← List.map_take, ← List.map_drop, -List.length_take, -List.length_drop, -List.map_replicate, rep_pY0, rep_pB0, rep_pI0, e_table_Decode.eq_1, Try.results23, h_table_Length, Ok_table_Length, h_table_known, Ok_table_known, h_table_between, Ok_table_between, h_table_sealed, Ok_table_sealed, h_pack_Get, Ok_pack_Get, h_pack_Unbits, Ok_pack_Unbits, hE, hV, h1', -neq_mark, ht, hm, mark4, c1_prim]
    (repeat' (first | exact (show drawD _ _ = true by decide +kernel) | exact (show _ = List.range' _ _ from rfl) | with_reducible refine and_imp_self' ?_ ?_ | with_reducible refine And.intro ?_ ?_ | with_reducible refine @Exists.intro Nat _ (i + 1) ?_ | with_reducible refine Exists.intro (show (_ : Nat) < _ by omega) ?_ | intro _)) <;> (try (first | omega | (unfold fits; omega) | assumption | with_reducible rfl | (simp only [inR_iff, inR_not, fits_iff] at *; omega)))
    all_goals trace_state
  rw [h2] at hm
  cases h3 : sealedB b
  · have hE : decE b = 23 := by simp [decE, h1, h2, h3]
    have hV : dec b = ⟨0, [], [], []⟩ := by simp [dec, hE]
    simp -implicitDefEqProofs +contextual (maxSteps := 4000000) [-Int.not_le, -Int.not_lt, -Nat.not_le, -Nat.not_lt, -UInt32.toNat_or, -UInt32.toNat_xor, -UInt32.toNat_and, -UInt8.toNat_or, -UInt8.toNat_xor, -UInt8.toNat_and, -UInt32.toNat_add, -UInt8.toNat_add, -List.map_take, -List.map_drop, ← List.map_take, ← List.map_drop, -List.length_take, -List.length_drop, -List.map_replicate, rep_pY0, rep_pB0, rep_pI0, e_table_Decode.eq_1, Try.results23, h_table_Length, Ok_table_Length, h_table_known, Ok_table_known, h_table_between, Ok_table_between, h_table_sealed, Ok_table_sealed, h_pack_Get, Ok_pack_Get, h_pack_Unbits, Ok_pack_Unbits, hE, hV, h1', -neq_mark, ht, hm, mark4, c1_prim, h3]
    (repeat' (first | exact (show drawD _ _ = true by decide +kernel) | exact (show _ = List.range' _ _ from rfl) | with_reducible refine and_imp_self' ?_ ?_ | with_reducible refine And.intro ?_ ?_ | with_reducible refine @Exists.intro Nat _ (i + 1) ?_ | with_reducible refine Exists.intro (show (_ : Nat) < _ by omega) ?_ | intro _)) <;> (try (first | omega | (unfold fits; omega) | assumption | with_reducible rfl | (simp only [inR_iff, inR_not, fits_iff] at *; omega)))
    all_goals trace_state
  have no : decC b = false → decE b = 24 ∧ dec b = ⟨0, [], [], []⟩ := fun h4 => by
    have hE : decE b = 24 := by simp [decE, h1, h2, h3, h4]
    exact ⟨hE, by simp [dec, hE]⟩
  cases c1 : inR (byB b 4) 1 8
  · obtain ⟨hE, hV⟩ := no (by simp [decC, c1])
    simp -implicitDefEqProofs +contextual (maxSteps := 4000000) [-Int.not_le, -Int.not_lt, -Nat.not_le, -Nat.not_lt, -UInt32.toNat_or, -UInt32.toNat_xor, -UInt32.toNat_and, -UInt8.toNat_or, -UInt8.toNat_xor, -UInt8.toNat_and, -UInt32.toNat_add, -UInt8.toNat_add, -List.map_take, -List.map_drop, ← List.map_take, ← List.map_drop, -List.length_take, -List.length_drop, -List.map_replicate, rep_pY0, rep_pB0, rep_pI0, e_table_Decode.eq_1, Try.results23, h_table_Length, Ok_table_Length, h_table_known, Ok_table_known, h_table_between, Ok_table_between, h_table_sealed, Ok_table_sealed, h_pack_Get, Ok_pack_Get, h_pack_Unbits, Ok_pack_Unbits, hE, hV, h1', -neq_mark, ht, hm, mark4, c1_prim, h3, byB_eq, c1]
    (repeat' (first | exact (show drawD _ _ = true by decide +kernel) | exact (show _ = List.range' _ _ from rfl) | with_reducible refine and_imp_self' ?_ ?_ | with_reducible refine And.intro ?_ ?_ | with_reducible refine @Exists.intro Nat _ (i + 1) ?_ | with_reducible refine Exists.intro (show (_ : Nat) < _ by omega) ?_ | intro _)) <;> (try (first | omega | (unfold fits; omega) | assumption | with_reducible rfl | (simp only [inR_iff, inR_not, fits_iff] at *; omega)))
  cases c2 : inR (byB b 5) 1 5
  · obtain ⟨hE, hV⟩ := no (by simp [decC, c2])
    simp -implicitDefEqProofs +contextual (maxSteps := 4000000) [-Int.not_le, -Int.not_lt, -Nat.not_le, -Nat.not_lt, -UInt32.toNat_or, -UInt32.toNat_xor, -UInt32.toNat_and, -UInt8.toNat_or, -UInt8.toNat_xor, -UInt8.toNat_and, -UInt32.toNat_add, -UInt8.toNat_add, -List.map_take, -List.map_drop, ← List.map_take, ← List.map_drop, -List.length_take, -List.length_drop, -List.map_replicate, rep_pY0, rep_pB0, rep_pI0, e_table_Decode.eq_1, Try.results23, h_table_Length, Ok_table_Length, h_table_known, Ok_table_known, h_table_between, Ok_table_between, h_table_sealed, Ok_table_sealed, h_pack_Get, Ok_pack_Get, h_pack_Unbits, Ok_pack_Unbits, hE, hV, h1', -neq_mark, ht, hm, mark4, c1_prim, h3, byB_eq, c1, c2]
    (repeat' (first | exact (show drawD _ _ = true by decide +kernel) | exact (show _ = List.range' _ _ from rfl) | with_reducible refine and_imp_self' ?_ ?_ | with_reducible refine And.intro ?_ ?_ | with_reducible refine @Exists.intro Nat _ (i + 1) ?_ | with_reducible refine Exists.intro (show (_ : Nat) < _ by omega) ?_ | intro _)) <;> (try (first | omega | (unfold fits; omega) | assumption | with_reducible rfl | (simp only [inR_iff, inR_not, fits_iff] at *; omega)))
  cases c3 : inR (byB b 6) 1 60
  · obtain ⟨hE, hV⟩ := no (by simp [decC, c3])
    simp -implicitDefEqProofs +contextual (maxSteps := 4000000) [-Int.not_le, -Int.not_lt, -Nat.not_le, -Nat.not_lt, -UInt32.toNat_or, -UInt32.toNat_xor, -UInt32.toNat_and, -UInt8.toNat_or, -UInt8.toNat_xor, -UInt8.toNat_and, -UInt32.toNat_add, -UInt8.toNat_add, -List.map_take, -List.map_drop, ← List.map_take, ← List.map_drop, -List.length_take, -List.length_drop, -List.map_replicate, rep_pY0, rep_pB0, rep_pI0, e_table_Decode.eq_1, Try.results23, h_table_Length, Ok_table_Length, h_table_known, Ok_table_known, h_table_between, Ok_table_between, h_table_sealed, Ok_table_sealed, h_pack_Get, Ok_pack_Get, h_pack_Unbits, Ok_pack_Unbits, hE, hV, h1', -neq_mark, ht, hm, mark4, c1_prim, h3, byB_eq, c1, c2, c3]
    (repeat' (first | exact (show drawD _ _ = true by decide +kernel) | exact (show _ = List.range' _ _ from rfl) | with_reducible refine and_imp_self' ?_ ?_ | with_reducible refine And.intro ?_ ?_ | with_reducible refine @Exists.intro Nat _ (i + 1) ?_ | with_reducible refine Exists.intro (show (_ : Nat) < _ by omega) ?_ | intro _)) <;> (try (first | omega | (unfold fits; omega) | assumption | with_reducible rfl | (simp only [inR_iff, inR_not, fits_iff] at *; omega)))
  by_cases c4 : lenV (byB b 4) (byB b 5) (byB b 6) = b.length
  case neg =>
    obtain ⟨hE, hV⟩ := no (by simp [decC, c4])
    simp -implicitDefEqProofs +contextual (maxSteps := 4000000) [-Int.not_le, -Int.not_lt, -Nat.not_le, -Nat.not_lt, -UInt32.toNat_or, -UInt32.toNat_xor, -UInt32.toNat_and, -UInt8.toNat_or, -UInt8.toNat_xor, -UInt8.toNat_and, -UInt32.toNat_add, -UInt8.toNat_add, -List.map_take, -List.map_drop, ← List.map_take, ← List.map_drop, -List.length_take, -List.length_drop, -List.map_replicate, rep_pY0, rep_pB0, rep_pI0, e_table_Decode.eq_1, Try.results23, h_table_Length, Ok_table_Length, h_table_known, Ok_table_known, h_table_between, Ok_table_between, h_table_sealed, Ok_table_sealed, h_pack_Get, Ok_pack_Get, h_pack_Unbits, Ok_pack_Unbits, hE, hV, h1', -neq_mark, ht, hm, mark4, c1_prim, h3, byB_eq, c1, c2, c3, c4]
    (repeat' (first | exact (show drawD _ _ = true by decide +kernel) | exact (show _ = List.range' _ _ from rfl) | with_reducible refine and_imp_self' ?_ ?_ | with_reducible refine And.intro ?_ ?_ | with_reducible refine @Exists.intro Nat _ (i + 1) ?_ | with_reducible refine Exists.intro (show (_ : Nat) < _ by omega) ?_ | intro _)) <;> (try (first | omega | (unfold fits; omega) | assumption | with_reducible rfl | (simp only [inR_iff, inR_not, fits_iff] at *; omega)))
  have h4 : decC b = true := by simp [decC, c1, c2, c3, c4]
  have r1 := inR_iff.1 c1
  have r2 := inR_iff.1 c2
  have r3 := inR_iff.1 c3
  have hl := c4
  rw [lenV, if_pos ⟨inR_iff.2 (by omega), inR_iff.2 (by omega), inR_iff.2 (by omega)⟩] at hl
  simp -implicitDefEqProofs +contextual (maxSteps := 4000000) [-Int.not_le, -Int.not_lt, -Nat.not_le, -Nat.not_lt, -UInt32.toNat_or, -UInt32.toNat_xor, -UInt32.toNat_and, -UInt8.toNat_or, -UInt8.toNat_xor, -UInt8.toNat_and, -UInt32.toNat_add, -UInt8.toNat_add, -List.map_take, -List.map_drop, ← List.map_take, ← List.map_drop, -List.length_take, -List.length_drop, -List.map_replicate, rep_pY0, rep_pB0, rep_pI0, e_table_Decode.eq_1, Try.results23, h_table_Length, Ok_table_Length, h_table_known, Ok_table_known, h_table_between, Ok_table_between, h_table_sealed, Ok_table_sealed, h_pack_Get, Ok_pack_Get, h_pack_Unbits, Ok_pack_Unbits, h1', -neq_mark, ht, hm, mark4, c1_prim, h3, byB_eq, c1, c2, c3, c4]
  (repeat' (first | exact (show drawD _ _ = true by decide +kernel) | exact (show _ = List.range' _ _ from rfl) | with_reducible refine and_imp_self' ?_ ?_ | with_reducible refine And.intro ?_ ?_ | with_reducible refine @Exists.intro Nat _ (i + 1) ?_ | with_reducible refine Exists.intro (show (_ : Nat) < _ by omega) ?_ | intro _)) <;> (try (first | omega | (unfold fits; omega) | assumption | with_reducible rfl | (simp only [inR_iff, inR_not, fits_iff] at *; omega)))
  refine loopo (fun i => i ≤ (byB b 6).toNat)
    (fun i => [(0, .val (sY b), 0, 0), (2, .val (.ptr true [pI 0, .sl true 2 [], .sl true 1 [], .sl true 1 []]), 0, 0), (4, .val (.ptr true [pI (byB b 4), tBand (decBs b i), .sl true 1 [], .sl true 1 []]), 0, 0),
      (5, .val (pI (byB b 5)), 0, 0), (7, .val (pI (dB i)), 0, 0), (71, .val (pI (byB b 6)), 0, 0), (72, .val (pI i), 0, 0)])
    (fun i => (byB b 6).toNat - i) ?_ (s := 0) rfl (by simp)
  intro i hi
  have tn3 : ((dB i : Int) + 3).toNat = dB i + 3 := by omega
  have hdB : dB i = 7 + 4 * i := rfl
  have hdB1 : dB (i + 1) = 7 + 4 * (i + 1) := rfl
  simp -implicitDefEqProofs +contextual (maxSteps := 4000000) [-Int.not_le, -Int.not_lt, -Nat.not_le, -Nat.not_lt, -UInt32.toNat_or, -UInt32.toNat_xor, -UInt32.toNat_and, -UInt8.toNat_or, -UInt8.toNat_xor, -UInt8.toNat_and, -UInt32.toNat_add, -UInt8.toNat_add, -List.map_take, -List.map_drop, ← List.map_take, ← List.map_drop, -List.length_take, -List.length_drop, -List.map_replicate, rep_pY0, rep_pB0, rep_pI0, e_table_Decode.eq_1, Try.results23, h_table_Length, Ok_table_Length, h_table_known, Ok_table_known, h_table_between, Ok_table_between, h_table_sealed, Ok_table_sealed, h_pack_Get, Ok_pack_Get, h_pack_Unbits, Ok_pack_Unbits, byB_eq, tn3, decBs_len]
  have hnn : 0 ≤ byB b 4 * byB b 5 := Int.mul_nonneg (by omega) (by omega)
  have hA0 : dAt b 0 = 7 + 4 * (byB b 6).toNat := by unfold dAt; omega
  have hAn : dAt b (byB b 5).toNat + ((byB b 5).toNat + 7) / 8 + 4 = b.length := by
    have h5 : ((byB b 4).toNat * (byB b 5).toNat : Nat) = byB b 4 * byB b 5 := by rw [Int.natCast_mul]; congr 1 <;> omega
    unfold dAt; omega
  (repeat' (first | exact (show drawD _ _ = true by decide +kernel) | exact (show _ = List.range' _ _ from rfl) | with_reducible refine and_imp_self' ?_ ?_ | with_reducible refine And.intro ?_ ?_ | with_reducible refine @Exists.intro Nat _ (i + 1) ?_ | with_reducible refine Exists.intro (show (_ : Nat) < _ by omega) ?_ | intro _)) <;> (try (first | omega | (unfold fits; omega) | assumption | with_reducible rfl | (simp only [inR_iff, inR_not, fits_iff] at *; omega)))
  · rw [decBs_succ, List.map_append]; rfl
  obtain rfl : i = (byB b 6).toNat := by omega
  have e0 : dB (byB b 6).toNat = dAt b 0 := by omega
  rw [e0]
  refine loopo (fun s => s ≤ (byB b 5).toNat)
    (fun s => [(0, .val (sY b), 0, 0), (2, .val (.ptr true [pI 0, .sl true 2 [], .sl true 1 [], .sl true 1 []]), 0, 0), (4, .val (.ptr true [pI (byB b 4), tBand (decBs b (byB b 6).toNat), tII (decRs b s), .sl true 1 []]), 0, 0),
      (5, .val (pI (byB b 5)), 0, 0), (7, .val (pI (dAt b s)), 0, 0), (96, .val (pI (byB b 5)), 0, 0), (97, .val (pI s), 0, 0)])
    (fun s => (byB b 5).toNat - s) ?_ (s := 0) rfl (by simp)
  intro s hs
  have tnr : ((dAt b s : Int) + byB b 4).toNat - dAt b s = (byB b 4).toNat := by omega
  have tnt : ((b.length : Int) - 4).toNat - dAt b (byB b 5).toNat = b.length - 4 - dAt b (byB b 5).toNat := by omega
  have hsn : s < (byB b 5).toNat → dAt b s + (byB b 4).toNat ≤ dAt b (byB b 5).toNat := fun h => by rw [← dAt_succ]; exact dAt_le h
  have hsle : dAt b s ≤ dAt b (byB b 5).toNat := dAt_le hs
  have hrl : s < (byB b 5).toNat → (rowB b s).length = (byB b 4).toNat := fun h => by
    have := hsn h
    rw [rowB, List.length_take, List.length_drop]; omega
  simp -implicitDefEqProofs +contextual (maxSteps := 4000000) [-Int.not_le, -Int.not_lt, -Nat.not_le, -Nat.not_lt, -UInt32.toNat_or, -UInt32.toNat_xor, -UInt32.toNat_and, -UInt8.toNat_or, -UInt8.toNat_xor, -UInt8.toNat_and, -UInt32.toNat_add, -UInt8.toNat_add, -List.map_take, -List.map_drop, ← List.map_take, ← List.map_drop, -List.length_take, -List.length_drop, -List.map_replicate, rep_pY0, rep_pB0, rep_pI0, e_table_Decode.eq_1, Try.results23, h_table_Length, Ok_table_Length, h_table_known, Ok_table_known, h_table_between, Ok_table_between, h_table_sealed, Ok_table_sealed, h_pack_Get, Ok_pack_Get, h_pack_Unbits, Ok_pack_Unbits, tnr]
  (repeat' (first | exact (show drawD _ _ = true by decide +kernel) | exact (show _ = List.range' _ _ from rfl) | with_reducible refine and_imp_self' ?_ ?_ | with_reducible refine And.intro ?_ ?_ | with_reducible refine @Exists.intro Nat _ (i + 1) ?_ | with_reducible refine Exists.intro (show (_ : Nat) < _ by omega) ?_ | intro _)) <;> (try (first | omega | (unfold fits; omega) | assumption | with_reducible rfl | (simp only [inR_iff, inR_not, fits_iff] at *; omega)))
  · have hr := hrl (by omega)
    refine loopo (fun i => i ≤ (rowB b s).length)
      (fun i => [(0, .val (sY b), 0, 0), (2, .val (.ptr true [pI 0, .sl true 2 [], .sl true 1 [], .sl true 1 []]), 0, 0), (4, .val (.ptr true [pI (byB b 4), tBand (decBs b (byB b 6).toNat), tII (decRs b s), .sl true 1 []]), 0, 0),
        (5, .val (pI (byB b 5)), 0, 0), (7, .val (pI (dAt b s)), 0, 0), (10, .val (tI (nums ((rowB b s).take i))), 0, 0), (96, .val (pI (byB b 5)), 0, 0), (97, .val (pI s), 0, 0),
        (99, .val (sY b), 0, 0), (105, .val (sY (rowB b s)), 0, 0), (106, .val (pI (rowB b s).length), 0, 0), (107, .val (pI i), 0, 0)])
      (fun i => (rowB b s).length - i) ?_ (s := 0) rfl (by simp)
    intro i hi
    simp -implicitDefEqProofs +contextual (maxSteps := 4000000) [-Int.not_le, -Int.not_lt, -Nat.not_le, -Nat.not_lt, -UInt32.toNat_or, -UInt32.toNat_xor, -UInt32.toNat_and, -UInt8.toNat_or, -UInt8.toNat_xor, -UInt8.toNat_and, -UInt32.toNat_add, -UInt8.toNat_add, -List.map_take, -List.map_drop, ← List.map_take, ← List.map_drop, -List.length_take, -List.length_drop, -List.map_replicate, rep_pY0, rep_pB0, rep_pI0, e_table_Decode.eq_1, Try.results23, h_table_Length, Ok_table_Length, h_table_known, Ok_table_known, h_table_between, Ok_table_between, h_table_sealed, Ok_table_sealed, h_pack_Get, Ok_pack_Get, h_pack_Unbits, Ok_pack_Unbits, decRs_len]
    have hnl : (nums (List.take i (rowB b s))).length ≤ 8 := by rw [nums, List.length_map, List.length_take]; omega
    refine ⟨fun a => ?_, fun a => ?_⟩
    · (repeat' (first | exact (show drawD _ _ = true by decide +kernel) | exact (show _ = List.range' _ _ from rfl) | with_reducible refine and_imp_self' ?_ ?_ | with_reducible refine And.intro ?_ ?_ | with_reducible refine @Exists.intro Nat _ (i + 1) ?_ | with_reducible refine Exists.intro (show (_ : Nat) < _ by omega) ?_ | intro _)) <;> (try (first | omega | (unfold fits; omega) | assumption | with_reducible rfl | (simp only [inR_iff, inR_not, fits_iff] at *; omega)))
      · rw [take_succ' (l := rowB b s) a, nums, nums, List.map_append, List.map_append]; rfl
    · refine ⟨by omega, fun _ => ⟨by unfold fits; omega, fun _ => ⟨by unfold fits; omega, fun _ => ⟨s + 1, by omega, by omega, ?_, ?_, by omega⟩⟩⟩⟩
      · rw [decRs_succ, List.map_append, List.take_of_length_le (by omega)]; rfl
      · rw [dAt_succ]; omega
  all_goals (obtain rfl : s = (byB b 5).toNat := by omega)
  all_goals (have eT : List.take (((b.length : Int) - 4).toNat - dAt b (byB b 5).toNat) (List.drop (dAt b (byB b 5).toNat) b) = decTail b := by rw [tnt]; rfl)
  all_goals (simp only [eT] at *)
  all_goals first
    | (unfold decTail; rw [List.length_take]; omega)
    | (have hu : unbitsB (decTail b) (byB b 5) = false := by assumption
       have hE : decE b = 25 := by simp [decE, h1, h2, h3, h4, hu]
       simp [dec, hE]; done)
    | (have hu : unbitsB (decTail b) (byB b 5) = true := by assumption
       have hE : decE b = 0 := by simp [decE, h1, h2, h3, h4, hu]
       simp [dec, hE, decT]; done)

end Go.V
