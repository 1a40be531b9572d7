/- A part of the proof of ValidAlike: contracts of functions, or what these lean on. No condition. -/
import Derived.Test.YthbmifpfhdlicaaA24
import Derived.Test.YthbmifpfhdlicaaA10
import Derived.Test.YthbmifpfhdlicaaP6
import Derived.Test.YthbmifpfhdlicaaW6
namespace Go.V
open Go.Proofs
set_option maxRecDepth 8000
set_option linter.unusedSimpArgs false
set_option linter.unusedVariables false
theorem alkV_iff {t : Tab} {a b : Int} : alkV t a b = true ↔ Cnt t ∧ nxtV t = true ∧ (0 ≤ a ∧ a < t.next.length) ∧ (0 ≤ b ∧ b < t.next.length) ∧ Alk t a.toNat b.toNat := by
  unfold alkV
  simp only [Bool.and_eq_true, cntV_iff, inR_iff, alk_iff]
  constructor
  · rintro ⟨⟨⟨⟨h1, h2⟩, h3⟩, h4⟩, h5⟩; exact ⟨h1, h2, by omega, by omega, h5⟩
  · rintro ⟨h1, h2, h3, h4, h5⟩; exact ⟨⟨⟨⟨h1, h2⟩, by omega⟩, by omega⟩, h5⟩
theorem alkV_symm {t : Tab} {a b : Int} : alkV t b a = alkV t a b := by
  rw [Bool.eq_iff_iff, alkV_iff, alkV_iff]
  exact ⟨fun ⟨h1, h2, h3, h4, h5⟩ => ⟨h1, h2, h4, h3, h5.symm⟩, fun ⟨h1, h2, h3, h4, h5⟩ => ⟨h1, h2, h4, h3, h5.symm⟩⟩
theorem alkV_trans {t : Tab} {a b c : Int} (h : alkV t a b = true) (k : alkV t b c = true) : alkV t a c = true := by
  rw [alkV_iff] at *
  exact ⟨h.1, h.2.1, h.2.2.1, k.2.2.2.1, h.2.2.2.2.trans k.2.2.2.2⟩
theorem alkV_self {t : Tab} {a b : Int} (h : alkV t a b = true) : alkV t a a = true := by
  rw [alkV_iff] at *
  exact ⟨h.1, h.2.1, h.2.2.1, h.2.2.1, Alk.refl⟩
theorem Valid.alk {t : Tab} (h : Valid t) {a b : Nat} (ha : a < t.next.length) (hb : b < t.next.length) : Alk t a b ↔ a = b := by
  have hl := pairsV_iff.1 h.lst
  constructor
  · intro hA
    apply Classical.byContradiction
    intro hne
    rcases (show b < a ∨ a < b by omega) with k | k
    · have := hl a b ha k; rw [alk_iff.2 hA] at this; cases this
    · have := hl b a hb k; rw [alk_iff.2 hA.symm] at this; cases this
  · rintro rfl; exact Alk.refl
theorem Valid.alkV {t : Tab} (h : Valid t) {a b : Int} (ha : 0 ≤ a ∧ a < t.next.length) (hb : 0 ≤ b ∧ b < t.next.length) : alkV t a b = decide (a = b) := by
  rw [Bool.eq_iff_iff, alkV_iff, decide_eq_true_eq]
  constructor
  · rintro ⟨_, _, _, _, h5⟩
    have := (h.alk (by omega) (by omega)).1 h5
    omega
  · rintro rfl
    exact ⟨h.cnt, h.nxt, ha, ha, Alk.refl⟩
def e_law07_ValidAlike : Tab × UInt8 × UInt8 × UInt8 → List PV := fun (t, n, m, k) => [pT t, .agg [pY n, pY m, pY k]]
noncomputable def g_law07_ValidAlike : List PV → Option (PV × List PV) := spec e_law07_ValidAlike (fun (t, n, m, k) => t.bands.length < 2 ^ 63 ∧ t.next.length < 2 ^ 63 ∧ t.brk.length < 2 ^ 63) fun (t, n, m, k) => (pB true, [])
theorem e_law07_ValidAlike_inj (a b : Tab × UInt8 × UInt8 × UInt8) (h : e_law07_ValidAlike a = e_law07_ValidAlike b) : a = b := by
  obtain ⟨⟨t1a, t1b, t1c, t1d⟩, n1, m1, k1⟩ := a; obtain ⟨⟨t2a, t2b, t2c, t2d⟩, n2, m2, k2⟩ := b; simp [e_law07_ValidAlike, map_pI_inj, map_pB_inj, map_pY_inj, map_pBand_inj, map_sI_inj, Int.natCast_inj, UInt8.toNat_inj, UInt32.toNat_inj] at h; first | exact h | (simp [h]; done) | exact UInt32.toNat_inj.1 (by omega) | exact UInt8.toNat_inj.1 (by omega) | (simp only [Prod.mk.injEq, ← UInt8.toNat_inj, ← UInt32.toNat_inj] at *; omega) | grind
theorem Ok_law07_ValidAlike {t : Tab} {n : UInt8} {m : UInt8} {k : UInt8} {K : PV × List PV → Prop} : Ok (g_law07_ValidAlike [pT t, .agg [pY n, pY m, pY k]]) K = ((t.bands.length < 2 ^ 63 ∧ t.next.length < 2 ^ 63 ∧ t.brk.length < 2 ^ 63) ∧ K (pB true, [])) := Ok_spec e_law07_ValidAlike_inj (t, n, m, k)
set_option maxHeartbeats 4000000 in
theorem impl_law07_ValidAlike {tbl : Tbl} {G : Nat → Option (List PV)} (hT : Tb tbl G) (h_law06_Large : tbl 19 = g_law06_Large) (h_valid_Alike : tbl 34 = g_valid_Alike) (h_valid_Table : tbl 35 = g_valid_Table) (h_w : tbl 33 = gTrue) : Impl Try.prog G 9 (g_law07_ValidAlike) := by
  refine impl_p (E := En tbl G 96 k_law07_ValidAlike []) (c := _) hT mixed Try.func9 rfl rfl (fun a => by simp [e_law07_ValidAlike, pinned.eq_1, pinned.eq_2, PV.isMut.eq_1, PV.isMut.eq_2]) ?_
  rintro ⟨t, n, m, k⟩ hok
  refine ⟨by simp [e_law07_ValidAlike], ?_⟩
  replace hok : t.bands.length < 2 ^ 63 ∧ t.next.length < 2 ^ 63 ∧ t.brk.length < 2 ^ 63 := hok
  have hw : gTrue [] = some (pB true, []) := rfl
  by_cases hL : largeT t = true
  · simp -implicitDefEqProofs +contextual (maxSteps := 4000000) [-Int.not_le, -Int.not_lt, -Nat.not_le, -Nat.not_lt, -UInt32.toNat_or, -UInt32.toNat_xor, -UInt32.toNat_and, -UInt8.toNat_or, -UInt8.toNat_xor, -UInt8.toNat_and, -UInt32.toNat_add, -UInt8.toNat_add, -List.map_take, -List.map_drop, ← List.map_take, ← List.map_drop, -List.length_take, -List.length_drop, -List.map_replicate, rep_pY0, rep_pB0, rep_pI0, e_law07_ValidAlike.eq_1, Try.results9, h_law06_Large, Ok_law06_Large, h_valid_Alike, Ok_valid_Alike, h_valid_Table, Ok_valid_Table, h_w, hw, hL]
    omega
  have hL' : largeT t = false := by simpa using hL
  by_cases d1 : (t.next.length : Int) = 0
  · simp -implicitDefEqProofs +contextual (maxSteps := 4000000) [-Int.not_le, -Int.not_lt, -Nat.not_le, -Nat.not_lt, -UInt32.toNat_or, -UInt32.toNat_xor, -UInt32.toNat_and, -UInt8.toNat_or, -UInt8.toNat_xor, -UInt8.toNat_and, -UInt32.toNat_add, -UInt8.toNat_add, -List.map_take, -List.map_drop, ← List.map_take, ← List.map_drop, -List.length_take, -List.length_drop, -List.map_replicate, rep_pY0, rep_pB0, rep_pI0, e_law07_ValidAlike.eq_1, Try.results9, h_law06_Large, Ok_law06_Large, h_valid_Alike, Ok_valid_Alike, h_valid_Table, Ok_valid_Table, h_w, hw, hL', d1]
    omega
  by_cases d2 : 5 < (t.next.length : Int)
  · simp -implicitDefEqProofs +contextual (maxSteps := 4000000) [-Int.not_le, -Int.not_lt, -Nat.not_le, -Nat.not_lt, -UInt32.toNat_or, -UInt32.toNat_xor, -UInt32.toNat_and, -UInt8.toNat_or, -UInt8.toNat_xor, -UInt8.toNat_and, -UInt32.toNat_add, -UInt8.toNat_add, -List.map_take, -List.map_drop, ← List.map_take, ← List.map_drop, -List.length_take, -List.length_drop, -List.map_replicate, rep_pY0, rep_pB0, rep_pI0, e_law07_ValidAlike.eq_1, Try.results9, h_law06_Large, Ok_law06_Large, h_valid_Alike, Ok_valid_Alike, h_valid_Table, Ok_valid_Table, h_w, hw, hL', d1, d2]
    omega
  have hsm := largeT_small hL'
  have r : ∀ u : UInt8, 0 ≤ (u.toNat : Int) % t.next.length ∧ (u.toNat : Int) % t.next.length < t.next.length := fun u => ⟨Int.emod_nonneg _ (by omega), Int.emod_lt_of_pos _ (by omega)⟩
  have ra := r n
  have rb := r m
  have rc := r k
  have hpos : 0 < (t.next.length : Int) := by omega
  simp -implicitDefEqProofs +contextual (maxSteps := 4000000) [-Int.not_le, -Int.not_lt, -Nat.not_le, -Nat.not_lt, -UInt32.toNat_or, -UInt32.toNat_xor, -UInt32.toNat_and, -UInt8.toNat_or, -UInt8.toNat_xor, -UInt8.toNat_and, -UInt32.toNat_add, -UInt8.toNat_add, -List.map_take, -List.map_drop, ← List.map_take, ← List.map_drop, -List.length_take, -List.length_drop, -List.map_replicate, rep_pY0, rep_pB0, rep_pI0, e_law07_ValidAlike.eq_1, Try.results9, h_law06_Large, Ok_law06_Large, h_valid_Alike, Ok_valid_Alike, h_valid_Table, Ok_valid_Table, h_w, hw, hL', d1, d2, hsm, hpos]
  generalize hA : (n.toNat : Int) % t.next.length = A at *
  generalize hB : (m.toNat : Int) % t.next.length = B at *
  generalize hC : (k.toNat : Int) % t.next.length = C at *
  have hS : alkV t A B = alkV t B A := alkV_symm
  have hV : validE t = 0 → alkV t A B = decide (A = B) := fun h => (validE_iff.1 h).alkV ra rb
  refine ⟨by omega, fun _ => ⟨by omega, fun _ => ⟨by decide +kernel, by decide +kernel, fun _ => ⟨fun x => ⟨fun y => ⟨fun z => ⟨alkV_self (b := B) (by rw [hS, x]), fun _ v => ?_⟩, alkV_trans (b := B) (by rw [hS, x]) y⟩, fun y => ⟨alkV_self (b := B) (by rw [hS, x]), fun _ v => ?_⟩⟩, fun x v e => ?_⟩, hS⟩⟩⟩
  · have := hV v; rw [hS, x] at this; simpa using this.symm
  · have := hV v; rw [hS, x] at this; simpa using this.symm
  · have := hV v; rw [hS, x] at this; simp [e] at this
theorem law_law07_ValidAlike_eq (t : Tab) (w : wfT t) (n : UInt8 × UInt8 × UInt8) (_ : True ∧ True ∧ True) : g_law07_ValidAlike [pT t, .agg [pY n.1, pY n.2.1, pY n.2.2]] = some (pB true, []) :=
  Ok_eq (by rw [Ok_law07_ValidAlike]; exact ⟨wfT_len w, rfl⟩)

end Go.V
