/- A part of the proof of SegmentWhole: contracts of functions, or what these lean on. No condition. -/
import Derived.Test.YtldoffdakikaeaaDoorB1
namespace Go.V
open Go.Proofs
set_option maxRecDepth 8000
set_option linter.unusedSimpArgs false
set_option linter.unusedVariables false
def e_utf_begun : (List UInt8) → List PV := fun s => [pS s]
noncomputable def g_utf_begun : List PV → Option (PV × List PV) := spec e_utf_begun (fun s => 0 < s.length ∧ s.length < 2 ^ 62) fun s => (.tup [pI (begU s).1, pB (begU s).2], [])
theorem e_utf_begun_inj (a b : (List UInt8)) (h : e_utf_begun a = e_utf_begun b) : a = b := by
  simp [e_utf_begun, map_pI_inj, map_pB_inj, map_pY_inj, map_pBand_inj, map_sI_inj, str_inj, Int.natCast_inj, UInt8.toNat_inj, UInt32.toNat_inj] at h; first | exact h | (simp [h]; done) | exact UInt32.toNat_inj.1 (by omega) | exact UInt8.toNat_inj.1 (by omega) | (simp only [Prod.mk.injEq, ← UInt8.toNat_inj, ← UInt32.toNat_inj] at *; omega) | grind
theorem Ok_utf_begun {s : List UInt8} {K : PV × List PV → Prop} : Ok (g_utf_begun [pS s]) K = ((0 < s.length ∧ s.length < 2 ^ 62) ∧ K (.tup [pI (begU s).1, pB (begU s).2], [])) := Ok_spec e_utf_begun_inj s
set_option maxHeartbeats 1000000 in
theorem impl_utf_begun {tbl : Tbl} {G : Nat → Option (List PV)} (hT : Tb tbl G) (h_utf_of : tbl 61 = g_utf_of) : Impl Tryd.prog G 42 (g_utf_begun) := by
  refine impl_p (E := En tbl G 48 k_utf_begun []) (c := _) hT mixed Tryd.func42 rfl rfl (fun a => by simp [e_utf_begun, pinned.eq_1, pinned.eq_2, PV.isMut.eq_1, PV.isMut.eq_2]) ?_
  rintro s hok
  refine ⟨by simp [e_utf_begun], ?_⟩
  replace hok : 0 < s.length ∧ s.length < 2 ^ 62 := hok
  rcases s with _ | ⟨c, t⟩
  · exact absurd hok.1 (by simp)
  have hl4 := @lsz_le c
  by_cases h0 : lsz c = 0
  · simp -implicitDefEqProofs +contextual (maxSteps := 4000000) [-Int.not_le, -Int.not_lt, -Nat.not_le, -Nat.not_lt, -UInt32.toNat_or, -UInt32.toNat_xor, -UInt32.toNat_and, -UInt8.toNat_or, -UInt8.toNat_xor, -UInt8.toNat_and, -UInt32.toNat_add, -UInt8.toNat_add, -List.map_take, -List.map_drop, ← List.map_take, ← List.map_drop, -List.length_take, -List.length_drop, -List.map_replicate, rep_pY0, rep_pB0, rep_pI0, e_utf_begun.eq_1, Tryd.results42, h_utf_of, Ok_utf_of, h0, begU, leadP]
  have e : begU (c :: t) = contU (lsz c) 1 (llo c) (lhi c) t := by simp [begU, h0]
  simp only [List.length_cons] at hok
  simp -implicitDefEqProofs +contextual (maxSteps := 4000000) [-Int.not_le, -Int.not_lt, -Nat.not_le, -Nat.not_lt, -UInt32.toNat_or, -UInt32.toNat_xor, -UInt32.toNat_and, -UInt8.toNat_or, -UInt8.toNat_xor, -UInt8.toNat_and, -UInt32.toNat_add, -UInt8.toNat_add, -List.map_take, -List.map_drop, ← List.map_take, ← List.map_drop, -List.length_take, -List.length_drop, -List.map_replicate, rep_pY0, rep_pB0, rep_pI0, e_utf_begun.eq_1, Tryd.results42, h_utf_of, Ok_utf_of, h0, leadP, pU, List.length_cons]
  refine ⟨show drawD _ _ = true by decide +kernel, ?_⟩
  refine loopu (fun (x : Nat × Int × Int) => 1 ≤ x.1 ∧ x.1 ≤ lsz c ∧ x.1 ≤ t.length + 1 ∧ contU (lsz c) x.1 x.2.1 x.2.2 (t.drop (x.1 - 1)) = begU (c :: t))
    (fun x => [(6, pU x.2.1), (7, pU x.2.2), (8, pI x.1)]) (fun x => lsz c - x.1) ?_ (s := (1, llo c, lhi c)) rfl ⟨by omega, by omega, by omega, by rw [e]; rfl⟩
  rintro ⟨n, lo, hi⟩ ⟨h1, h2, h3, h4⟩
  simp only at h1 h2 h3 h4
  by_cases a : n = lsz c
  · have : contU (lsz c) n lo hi (t.drop (n - 1)) = (n, true) := by rw [a]; exact contU_end
    rw [this] at h4
    simp -implicitDefEqProofs +contextual (maxSteps := 4000000) [-Int.not_le, -Int.not_lt, -Nat.not_le, -Nat.not_lt, -UInt32.toNat_or, -UInt32.toNat_xor, -UInt32.toNat_and, -UInt8.toNat_or, -UInt8.toNat_xor, -UInt8.toNat_and, -UInt32.toNat_add, -UInt8.toNat_add, -List.map_take, -List.map_drop, ← List.map_take, ← List.map_drop, -List.length_take, -List.length_drop, -List.map_replicate, rep_pY0, rep_pB0, rep_pI0, e_utf_begun.eq_1, Tryd.results42, h_utf_of, Ok_utf_of, a, ← h4, pU]
  have a' : (n : Int) < (lsz c : Int) := by omega
  by_cases b : n = t.length + 1
  · have b2 : t.drop (n - 1) = [] := List.drop_eq_nil_of_le (by omega)
    have b3 : ¬ lsz c ≤ n := by omega
    rw [b2] at h4
    simp only [contU, b3, decide_false] at h4
    have b4 : (n : Int) = (t.length : Int) + 1 := by omega
    simp -implicitDefEqProofs +contextual (maxSteps := 4000000) [-Int.not_le, -Int.not_lt, -Nat.not_le, -Nat.not_lt, -UInt32.toNat_or, -UInt32.toNat_xor, -UInt32.toNat_and, -UInt8.toNat_or, -UInt8.toNat_xor, -UInt8.toNat_and, -UInt32.toNat_add, -UInt8.toNat_add, -List.map_take, -List.map_drop, ← List.map_take, ← List.map_drop, -List.length_take, -List.length_drop, -List.map_replicate, rep_pY0, rep_pB0, rep_pI0, e_utf_begun.eq_1, Tryd.results42, h_utf_of, Ok_utf_of, a', ← h4, b4, pU]
    omega
  have hn : n - 1 < t.length := by omega
  have b' : ¬ (n : Int) = (t.length : Int) + 1 := by omega
  have hg : (c :: t)[n]? = some t[n - 1] := by
    obtain ⟨m, rfl⟩ : ∃ m, n = m + 1 := ⟨n - 1, by omega⟩
    simp only [List.getElem?_cons_succ, Nat.add_sub_cancel]
    exact List.getElem?_eq_getElem (by omega)
  have hi1 : (n : Int) < (t.length : Int) + 1 := by omega
  have h4' : contU (lsz c) n lo hi (t[n - 1] :: t.drop n) = begU (c :: t) := by
    rw [← h4]; congr 1
    have := List.drop_eq_getElem_cons (l := t) (i := n - 1) hn
    rw [this]; congr 2; omega
  generalize t[n - 1] = y at hg h4'
  simp only [contU] at h4'
  rw [if_neg (by omega)] at h4'
  by_cases c1 : (y.toNat : Int) < lo
  · rw [if_neg (by omega)] at h4'
    simp -implicitDefEqProofs +contextual (maxSteps := 4000000) [-Int.not_le, -Int.not_lt, -Nat.not_le, -Nat.not_lt, -UInt32.toNat_or, -UInt32.toNat_xor, -UInt32.toNat_and, -UInt8.toNat_or, -UInt8.toNat_xor, -UInt8.toNat_and, -UInt32.toNat_add, -UInt8.toNat_add, -List.map_take, -List.map_drop, ← List.map_take, ← List.map_drop, -List.length_take, -List.length_drop, -List.map_replicate, rep_pY0, rep_pB0, rep_pI0, e_utf_begun.eq_1, Tryd.results42, h_utf_of, Ok_utf_of, a', b', hg, hi1, c1, ← h4', pU]
  by_cases c2 : hi < (y.toNat : Int)
  · rw [if_neg (by omega)] at h4'
    simp -implicitDefEqProofs +contextual (maxSteps := 4000000) [-Int.not_le, -Int.not_lt, -Nat.not_le, -Nat.not_lt, -UInt32.toNat_or, -UInt32.toNat_xor, -UInt32.toNat_and, -UInt8.toNat_or, -UInt8.toNat_xor, -UInt8.toNat_and, -UInt32.toNat_add, -UInt8.toNat_add, -List.map_take, -List.map_drop, ← List.map_take, ← List.map_drop, -List.length_take, -List.length_drop, -List.map_replicate, rep_pY0, rep_pB0, rep_pI0, e_utf_begun.eq_1, Tryd.results42, h_utf_of, Ok_utf_of, a', b', hg, hi1, c1, c2, ← h4', pU]
  rw [if_pos (by omega)] at h4'
  simp -implicitDefEqProofs +contextual (maxSteps := 4000000) [-Int.not_le, -Int.not_lt, -Nat.not_le, -Nat.not_lt, -UInt32.toNat_or, -UInt32.toNat_xor, -UInt32.toNat_and, -UInt8.toNat_or, -UInt8.toNat_xor, -UInt8.toNat_and, -UInt32.toNat_add, -UInt8.toNat_add, -List.map_take, -List.map_drop, ← List.map_take, ← List.map_drop, -List.length_take, -List.length_drop, -List.map_replicate, rep_pY0, rep_pB0, rep_pI0, e_utf_begun.eq_1, Tryd.results42, h_utf_of, Ok_utf_of, a', b', hg, hi1, c1, c2, pU]
  exact ⟨by unfold fits; omega, fun _ => ⟨n + 1, 128, 191, ⟨by omega, by omega, by omega, by rw [Nat.add_sub_cancel]; exact h4'⟩, by omega, rfl, rfl, by omega⟩⟩
theorem orU {a : Int} {b : UInt8} (ha : 0 ≤ a) : (((a * 64).toNat ||| b.toNat &&& 63 : Nat) : Int) = a * 64 + (b.toNat : Int) % 64 := by
  have h0 : b.toNat &&& 63 = b.toNat % 64 := by
    rw [show (63 : Nat) = 2 ^ 6 - 1 from rfl, Nat.and_two_pow_sub_one_eq_mod]
  have h1 : (a * 64).toNat = 2 ^ 6 * a.toNat := by omega
  rw [h0, h1, ← Nat.two_pow_add_eq_or_of_lt (by omega)]; omega
theorem andTop {b : UInt8} {k : Nat} : ((b.toNat &&& ((2 : Int) ^ k).toNat - 1 : Nat) : Int) = (b.toNat : Int) % 2 ^ k := by
  have h2 : ((2 : Int) ^ k).toNat = 2 ^ k := by
    have : ((2 : Int) ^ k) = ((2 ^ k : Nat) : Int) := by push_cast; rfl
    rw [this]; rfl
  rw [h2, Nat.and_two_pow_sub_one_eq_mod]
  push_cast; rfl
def e_utf_value : (List UInt8) → List PV := fun s => [pS s]
noncomputable def g_utf_value : List PV → Option (PV × List PV) := spec e_utf_value (fun s => 1 ≤ s.length ∧ s.length ≤ 4) fun s => (pI (valU s), [])
theorem e_utf_value_inj (a b : (List UInt8)) (h : e_utf_value a = e_utf_value b) : a = b := by
  simp [e_utf_value, map_pI_inj, map_pB_inj, map_pY_inj, map_pBand_inj, map_sI_inj, str_inj, Int.natCast_inj, UInt8.toNat_inj, UInt32.toNat_inj] at h; first | exact h | (simp [h]; done) | exact UInt32.toNat_inj.1 (by omega) | exact UInt8.toNat_inj.1 (by omega) | (simp only [Prod.mk.injEq, ← UInt8.toNat_inj, ← UInt32.toNat_inj] at *; omega) | grind
theorem Ok_utf_value {s : List UInt8} {K : PV × List PV → Prop} : Ok (g_utf_value [pS s]) K = ((1 ≤ s.length ∧ s.length ≤ 4) ∧ K (pI (valU s), [])) := Ok_spec e_utf_value_inj s
set_option maxHeartbeats 1000000 in
theorem impl_utf_value {tbl : Tbl} {G : Nat → Option (List PV)} (hT : Tb tbl G) : Impl Tryd.prog G 43 (g_utf_value) := by
  refine impl_p (E := En tbl G 35 k_utf_value []) (c := _) hT mixed Tryd.func43 rfl rfl (fun a => by simp [e_utf_value, pinned.eq_1, pinned.eq_2, PV.isMut.eq_1, PV.isMut.eq_2]) ?_
  rintro s hok
  refine ⟨by simp [e_utf_value], ?_⟩
  replace hok : 1 ≤ s.length ∧ s.length ≤ 4 := hok
  rcases s with _ | ⟨c, t⟩
  · exact absurd hok.1 (by simp)
  simp only [List.length_cons] at hok
  rcases t with _ | ⟨b, t⟩
  · simp -implicitDefEqProofs +contextual (maxSteps := 4000000) [-Int.not_le, -Int.not_lt, -Nat.not_le, -Nat.not_lt, -UInt32.toNat_or, -UInt32.toNat_xor, -UInt32.toNat_and, -UInt8.toNat_or, -UInt8.toNat_xor, -UInt8.toNat_and, -UInt32.toNat_add, -UInt8.toNat_add, -List.map_take, -List.map_drop, ← List.map_take, ← List.map_drop, -List.length_take, -List.length_drop, -List.map_replicate, rep_pY0, rep_pB0, rep_pI0, e_utf_value.eq_1, Tryd.results43, valU]
  simp only [List.length_cons] at hok
  have e1 : ¬ (t.length : Int) + 1 + 1 = 1 := by omega
  have hv : valU (c :: b :: t) = (b :: t).foldl (fun v b => v * 64 + (b.toNat : Int) % 64) ((c.toNat : Int) % 2 ^ (5 - t.length)) := by
    simp only [valU, List.length_cons]
    rw [show 6 - (t.length + 1) = 5 - t.length by omega]
  have hp : (7 - ((t.length : Int) + 1 + 1)).toNat = 5 - t.length := by omega
  have hq : (2 : Int) ^ (5 - t.length) = ((2 ^ (5 - t.length) : Nat) : Int) := by push_cast; rfl
  have hq1 := Nat.two_pow_pos (5 - t.length)
  have hq2 : 2 ^ (5 - t.length) ≤ 2 ^ 5 := Nat.pow_le_pow_right (by omega) (by omega)
  have hA : 0 ≤ (c.toNat : Int) % 2 ^ (5 - t.length) ∧ (c.toNat : Int) % 2 ^ (5 - t.length) < 128 := by
    rw [hq]
    have := Int.emod_nonneg (c.toNat : Int) (b := ((2 ^ (5 - t.length) : Nat) : Int)) (by omega)
    have := Int.emod_lt_of_pos (c.toNat : Int) (b := ((2 ^ (5 - t.length) : Nat) : Int)) (by omega)
    omega
  simp -implicitDefEqProofs +contextual (maxSteps := 4000000) [-Int.not_le, -Int.not_lt, -Nat.not_le, -Nat.not_lt, -UInt32.toNat_or, -UInt32.toNat_xor, -UInt32.toNat_and, -UInt8.toNat_or, -UInt8.toNat_xor, -UInt8.toNat_and, -UInt32.toNat_add, -UInt8.toNat_add, -List.map_take, -List.map_drop, ← List.map_take, ← List.map_drop, -List.length_take, -List.length_drop, -List.map_replicate, rep_pY0, rep_pB0, rep_pI0, e_utf_value.eq_1, Tryd.results43, e1, List.length_cons, hp]
  have f1 : fits (7 - ((t.length : Int) + 1 + 1)) := by unfold fits; omega
  have f2 : fits ((2 : Int) ^ (5 - t.length)) := by unfold fits; omega
  have f3 : fits ((2 : Int) ^ (5 - t.length) - 1) := by unfold fits; omega
  refine ⟨by omega, fun _ => ⟨f1, fun _ => ⟨by omega, fun _ _ => ⟨f2, fun _ => ⟨f3, fun _ => ⟨by omega, fun _ => ?_⟩⟩⟩⟩⟩⟩
  refine ⟨show drawD _ _ = true by decide +kernel, ?_⟩
  refine loopu (fun (x : Nat × Int) => 1 ≤ x.1 ∧ x.1 ≤ t.length + 2 ∧ x.2 = ((b :: t).take (x.1 - 1)).foldl (fun v b => v * 64 + (b.toNat : Int) % 64) ((c.toNat : Int) % 2 ^ (5 - t.length)) ∧ 0 ≤ x.2 ∧ x.2 < 128 * 64 ^ (x.1 - 1))
    (fun x => [(3, pI x.2), (4, pI x.1)]) (fun x => t.length + 2 - x.1) ?_ (s := (1, (c.toNat : Int) % 2 ^ (5 - t.length))) ?_ ⟨by omega, by omega, rfl, by omega, by simp; omega⟩
  case refine_2 =>
    rw [andTop]; rfl
  rintro ⟨i, v⟩ ⟨h1, h2, h3, h4, h5⟩
  simp only at h1 h2 h3 h4 h5
  have h6 : v < 128 * 64 ^ 3 := Int.lt_of_lt_of_le h5 (by
    have : (64 : Int) ^ (i - 1) ≤ 64 ^ 3 := by
      have := Nat.pow_le_pow_right (n := 64) (by omega) (show i - 1 ≤ 3 by omega)
      exact_mod_cast this
    omega)
  by_cases a : i = t.length + 2
  · have e2 : (i : Int) = (t.length : Int) + 1 + 1 := by omega
    rw [List.take_of_length_le (by simp; omega)] at h3
    simp -implicitDefEqProofs +contextual (maxSteps := 4000000) [-Int.not_le, -Int.not_lt, -Nat.not_le, -Nat.not_lt, -UInt32.toNat_or, -UInt32.toNat_xor, -UInt32.toNat_and, -UInt8.toNat_or, -UInt8.toNat_xor, -UInt8.toNat_and, -UInt32.toNat_add, -UInt8.toNat_add, -List.map_take, -List.map_drop, ← List.map_take, ← List.map_drop, -List.length_take, -List.length_drop, -List.map_replicate, rep_pY0, rep_pB0, rep_pI0, e_utf_value.eq_1, Tryd.results43, e2, List.length_cons, hv, h3]
  have a' : (i : Int) < (t.length : Int) + 1 + 1 := by omega
  have hn : i - 1 < (b :: t).length := by simp; omega
  have hg : (c :: b :: t)[i]? = some (b :: t)[i - 1] := by
    obtain ⟨m, rfl⟩ : ∃ m, i = m + 1 := ⟨i - 1, by omega⟩
    simp only [List.getElem?_cons_succ, Nat.add_sub_cancel]
    exact List.getElem?_eq_getElem (by omega)
  have hf : ((b :: t).take (i + 1 - 1)).foldl (fun v b => v * 64 + (b.toNat : Int) % 64) ((c.toNat : Int) % 2 ^ (5 - t.length)) = v * 64 + ((b :: t)[i - 1].toNat : Int) % 64 := by
    rw [h3, show i + 1 - 1 = (i - 1) + 1 by omega, List.take_succ_eq_append_getElem hn, List.foldl_append]; rfl
  generalize (b :: t)[i - 1] = y at hg hf
  have e3 := orU (b := y) h4
  simp -implicitDefEqProofs +contextual (maxSteps := 4000000) [-Int.not_le, -Int.not_lt, -Nat.not_le, -Nat.not_lt, -UInt32.toNat_or, -UInt32.toNat_xor, -UInt32.toNat_and, -UInt8.toNat_or, -UInt8.toNat_xor, -UInt8.toNat_and, -UInt32.toNat_add, -UInt8.toNat_add, -List.map_take, -List.map_drop, ← List.map_take, ← List.map_drop, -List.length_take, -List.length_drop, -List.map_replicate, rep_pY0, rep_pB0, rep_pI0, e_utf_value.eq_1, Tryd.results43, a', hg, List.length_cons, e3]
  have f4 : fits (v * 64) := by unfold fits; omega
  have f5 : fits ((y.toNat &&& 63 : Nat) : Int) := by
    have := Nat.and_le_right (n := y.toNat) (m := 63)
    unfold fits; omega
  refine ⟨f4, fun _ => ⟨by unfold fits; omega, fun _ => ⟨⟨by omega, f5⟩, fun _ _ => ⟨by unfold fits; omega, fun _ => ⟨i + 1, v * 64 + (y.toNat : Int) % 64, ⟨by omega, by omega, hf.symm, by omega, ?_⟩, by omega, rfl, by omega⟩⟩⟩⟩⟩
  have : (64 : Int) ^ (i + 1 - 1) = 64 * 64 ^ (i - 1) := by
    rw [show i + 1 - 1 = (i - 1) + 1 by omega, Int.pow_succ, Int.mul_comm]
  rw [this]; omega

end Go.V
