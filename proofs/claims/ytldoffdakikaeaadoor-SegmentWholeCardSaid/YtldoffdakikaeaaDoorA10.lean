/- A part of the proof of SegmentWhole: contracts of functions, or what these lean on. No condition. -/
import Derived.Test.YtldoffdakikaeaaDoorA6
namespace Go.V
open Go.Proofs
set_option maxRecDepth 8000
set_option linter.unusedSimpArgs false
set_option linter.unusedVariables false
def largeGo (most : Int) : List (List Int) → Int → Bool
  | [], n => decide (most < n)
  | x :: xs, n => if n ≤ most then largeGo most xs (n + (1 + (if most < (x.length : Int) then most else x.length))) else true
def e_keep_LargeLists : (List (List Int)) × Int → List PV := fun (l, most) => [sII l, pI most]
noncomputable def g_keep_LargeLists : List PV → Option (PV × List PV) := spec e_keep_LargeLists (fun (l, most) => l.length < 2 ^ 63 ∧ 0 ≤ most ∧ most < 2 ^ 40) fun (l, most) => (pB (largeGo most l 0), [])
theorem e_keep_LargeLists_inj (a b : (List (List Int)) × Int) (h : e_keep_LargeLists a = e_keep_LargeLists b) : a = b := by
  obtain ⟨l1, most1⟩ := a; obtain ⟨l2, most2⟩ := b; simp [e_keep_LargeLists, map_pI_inj, map_pB_inj, map_pY_inj, map_pBand_inj, map_sI_inj, Int.natCast_inj, UInt8.toNat_inj, UInt32.toNat_inj] at h; first | exact h | (simp [h]; done) | exact UInt32.toNat_inj.1 (by omega) | exact UInt8.toNat_inj.1 (by omega) | (simp only [Prod.mk.injEq, ← UInt8.toNat_inj, ← UInt32.toNat_inj] at *; omega) | grind
theorem Ok_keep_LargeLists {l : List (List Int)} {most : Int} {K : PV × List PV → Prop} : Ok (g_keep_LargeLists [sII l, pI most]) K = ((l.length < 2 ^ 63 ∧ 0 ≤ most ∧ most < 2 ^ 40) ∧ K (pB (largeGo most l 0), [])) := Ok_spec e_keep_LargeLists_inj (l, most)
set_option maxHeartbeats 1000000 in
theorem impl_keep_LargeLists {tbl : Tbl} {G : Nat → Option (List PV)} (hT : Tb tbl G) : Impl Tryd.prog G 55 (g_keep_LargeLists) := by
  refine impl_p (E := En tbl G 31 k_keep_LargeLists []) (c := _) hT mixed Tryd.func55 rfl rfl (fun a => by simp [e_keep_LargeLists, pinned.eq_1, pinned.eq_2, PV.isMut.eq_1, PV.isMut.eq_2]) ?_
  rintro ⟨l, most⟩ hok
  refine ⟨by simp [e_keep_LargeLists], ?_⟩
  replace hok : l.length < 2 ^ 63 ∧ 0 ≤ most ∧ most < 2 ^ 40 := hok
  simp -implicitDefEqProofs +contextual (maxSteps := 4000000) [-Int.not_le, -Int.not_lt, -Nat.not_le, -Nat.not_lt, -UInt32.toNat_or, -UInt32.toNat_xor, -UInt32.toNat_and, -UInt8.toNat_or, -UInt8.toNat_xor, -UInt8.toNat_and, -UInt32.toNat_add, -UInt8.toNat_add, -List.map_take, -List.map_drop, ← List.map_take, ← List.map_drop, -List.length_take, -List.length_drop, -List.map_replicate, rep_pY0, rep_pB0, rep_pI0, e_keep_LargeLists.eq_1, Tryd.results55]
  refine loopo (σ := Nat × Int) (fun s => s.1 ≤ l.length ∧ (0 ≤ s.2 ∧ s.2 ≤ 2 * most + 1) ∧ largeGo most (l.drop s.1) s.2 = largeGo most l 0)
    (fun s => [(0, .val (sII l), 0, 0), (1, .val (pI most), 0, 0), (5, .val (pI s.2), 0, 0), (6, .val (pI s.1), 0, 0)])
    (fun s => l.length - s.1) ?_ (s := (0, 0)) rfl ⟨Nat.zero_le _, by omega, rfl⟩
  rintro ⟨i, n⟩ ⟨hi, hn, hp⟩
  simp only at hi hn hp
  simp -implicitDefEqProofs +contextual (maxSteps := 4000000) [-Int.not_le, -Int.not_lt, -Nat.not_le, -Nat.not_lt, -UInt32.toNat_or, -UInt32.toNat_xor, -UInt32.toNat_and, -UInt8.toNat_or, -UInt8.toNat_xor, -UInt8.toNat_and, -UInt32.toNat_add, -UInt8.toNat_add, -List.map_take, -List.map_drop, ← List.map_take, ← List.map_drop, -List.length_take, -List.length_drop, -List.map_replicate, rep_pY0, rep_pB0, rep_pI0, e_keep_LargeLists.eq_1, Tryd.results55]
  (repeat' (first | exact (show drawD _ _ = true by decide +kernel) | exact (show _ = List.range' _ _ from rfl) | with_reducible refine and_imp_self' ?_ ?_ | with_reducible refine And.intro ?_ ?_ | with_reducible refine @Exists.intro Nat _ (i + 1) ?_ | with_reducible refine Exists.intro (show (_ : Nat) < _ by omega) ?_ | intro _)) <;> (try (first | omega | (unfold fits; omega) | assumption | with_reducible rfl | (simp only [inR_iff, inR_not, fits_iff] at *; omega)))
  · have hs : 0 ≤ (if most < (l[i].length : Int) then most else l[i].length) ∧ (if most < (l[i].length : Int) then most else l[i].length) ≤ most := by split <;> omega
    refine ⟨_, ⟨by omega, by omega, ?_⟩, by omega, rfl, by omega⟩
    rw [← hp, List.drop_eq_getElem_cons (show i < l.length by assumption), largeGo, if_pos (show n ≤ most by assumption)]
  · rw [← hp]
    cases hl : l.drop i with
    | nil => rfl
    | cons x xs => rw [largeGo, if_neg (show ¬ n ≤ most by assumption)]; simp; omega
  · rw [← hp, List.drop_of_length_le (by omega)]; rfl
def largeT (t : Tab) : Bool := decide (400 < (t.bands.length : Int)) || largeGo 3000 t.next 0 || decide (1000 < (t.brk.length : Int))
def e_law06_Large : Tab → List PV := fun t => [pT t]
noncomputable def g_law06_Large : List PV → Option (PV × List PV) := spec e_law06_Large (fun t => (t.bands.length < 2 ^ 63 ∧ t.next.length < 2 ^ 63 ∧ t.brk.length < 2 ^ 63)) fun t => (pB (largeT t), [])
theorem e_law06_Large_inj (a b : Tab) (h : e_law06_Large a = e_law06_Large b) : a = b := by
  obtain ⟨t1a, t1b, t1c, t1d⟩ := a; obtain ⟨t2a, t2b, t2c, t2d⟩ := b; simp [e_law06_Large, map_pI_inj, map_pB_inj, map_pY_inj, map_pBand_inj, map_sI_inj, Int.natCast_inj, UInt8.toNat_inj, UInt32.toNat_inj] at h; first | exact h | (simp [h]; done) | exact UInt32.toNat_inj.1 (by omega) | exact UInt8.toNat_inj.1 (by omega) | (simp only [Prod.mk.injEq, ← UInt8.toNat_inj, ← UInt32.toNat_inj] at *; omega) | grind
theorem Ok_law06_Large {t : Tab} {K : PV × List PV → Prop} : Ok (g_law06_Large [pT t]) K = (((t.bands.length < 2 ^ 63 ∧ t.next.length < 2 ^ 63 ∧ t.brk.length < 2 ^ 63)) ∧ K (pB (largeT t), [])) := Ok_spec e_law06_Large_inj t
set_option maxHeartbeats 1000000 in
theorem impl_law06_Large {tbl : Tbl} {G : Nat → Option (List PV)} (hT : Tb tbl G) (h_keep_LargeLists : tbl 55 = g_keep_LargeLists) : Impl Tryd.prog G 31 (g_law06_Large) := by
  refine impl_p (E := En tbl G 18 k_law06_Large []) (c := _) hT mixed Tryd.func31 rfl rfl (fun a => by simp [e_law06_Large, pinned.eq_1, pinned.eq_2, PV.isMut.eq_1, PV.isMut.eq_2]) ?_
  rintro t hok
  refine ⟨by simp [e_law06_Large], ?_⟩
  replace hok : (t.bands.length < 2 ^ 63 ∧ t.next.length < 2 ^ 63 ∧ t.brk.length < 2 ^ 63) := hok
  simp -implicitDefEqProofs +contextual (maxSteps := 4000000) [-Int.not_le, -Int.not_lt, -Nat.not_le, -Nat.not_lt, -UInt32.toNat_or, -UInt32.toNat_xor, -UInt32.toNat_and, -UInt8.toNat_or, -UInt8.toNat_xor, -UInt8.toNat_and, -UInt32.toNat_add, -UInt8.toNat_add, -List.map_take, -List.map_drop, ← List.map_take, ← List.map_drop, -List.length_take, -List.length_drop, -List.map_replicate, rep_pY0, rep_pB0, rep_pI0, e_law06_Large.eq_1, Tryd.results31, h_keep_LargeLists, Ok_keep_LargeLists, largeT.eq_1]
  (repeat' (first | exact (show drawD _ _ = true by decide +kernel) | exact (show _ = List.range' _ _ from rfl) | with_reducible refine and_imp_self' ?_ ?_ | with_reducible refine And.intro ?_ ?_ | with_reducible refine @Exists.intro Nat _ (i + 1) ?_ | with_reducible refine Exists.intro (show (_ : Nat) < _ by omega) ?_ | intro _)) <;> (try (first | omega | (unfold fits; omega) | assumption | with_reducible rfl | (simp only [inR_iff, inR_not, fits_iff] at *; omega)))

end Go.V
