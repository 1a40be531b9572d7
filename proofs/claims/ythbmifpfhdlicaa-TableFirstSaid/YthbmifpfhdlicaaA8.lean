/- A part of the proof of TableFirst: contracts of functions, or what these lean on. No condition. -/
import Derived.Test.YthbmifpfhdlicaaA7
import Derived.Test.YthbmifpfhdlicaaA1
import Derived.Test.YthbmifpfhdlicaaA6
namespace Go.V
open Go.Proofs
set_option maxRecDepth 8000
set_option linter.unusedSimpArgs false
set_option linter.unusedVariables false
def e_table_may_1 : Int → List PV := fun n => [pI n]
noncomputable def g_table_may_1 : List PV → Option (PV × List PV) := spec e_table_may_1 (fun n => True) fun n => (pB (!inR n 0 255), [])
theorem e_table_may_1_inj (a b : Int) (h : e_table_may_1 a = e_table_may_1 b) : a = b := by
  simp [e_table_may_1, map_pI_inj, map_pB_inj, map_pY_inj, map_pBand_inj, map_sI_inj, Int.natCast_inj, UInt8.toNat_inj, UInt32.toNat_inj] at h; first | exact h | (simp [h]; done) | exact UInt32.toNat_inj.1 (by omega) | exact UInt8.toNat_inj.1 (by omega) | (simp only [Prod.mk.injEq, ← UInt8.toNat_inj, ← UInt32.toNat_inj] at *; omega) | grind
theorem Ok_table_may_1 {n : Int} {K : PV × List PV → Prop} : Ok (g_table_may_1 [pI n]) K = ((True) ∧ K (pB (!inR n 0 255), [])) := Ok_spec e_table_may_1_inj n
set_option maxHeartbeats 1000000 in
theorem impl_table_may_1 {tbl : Tbl} {G : Nat → Option (List PV)} (hT : Tb tbl G) (h_table_between : tbl 56 = g_table_between) : Impl Try.prog G 91 (g_table_may_1) := by
  refine impl_p (E := En tbl G 6 k_table_may_1 []) (c := _) hT mixed Try.func91 rfl rfl (fun a => by simp [e_table_may_1, pinned.eq_1, pinned.eq_2, PV.isMut.eq_1, PV.isMut.eq_2]) ?_
  rintro n hok
  refine ⟨by simp [e_table_may_1], ?_⟩
  simp -implicitDefEqProofs +contextual (maxSteps := 4000000) [-Int.not_le, -Int.not_lt, -Nat.not_le, -Nat.not_lt, -UInt32.toNat_or, -UInt32.toNat_xor, -UInt32.toNat_and, -UInt8.toNat_or, -UInt8.toNat_xor, -UInt8.toNat_and, -UInt32.toNat_add, -UInt8.toNat_add, -List.map_take, -List.map_drop, ← List.map_take, ← List.map_drop, -List.length_take, -List.length_drop, -List.map_replicate, rep_pY0, rep_pB0, rep_pI0, e_table_may_1.eq_1, Try.results91, h_table_between, Ok_table_between]
theorem tb_may_1 {T0 : Tbl} (h : T0 91 = g_table_may_1) (x : Int) : tb T0 91 [] (pI x) = (!inR x 0 255) ∧ tbOk T0 91 [] (pI x) :=
  tb_of (by rw [h]; exact Ok_eq (by rw [Ok_table_may_1]; exact ⟨trivial, rfl⟩))
def bandOk (b : Int × Int) : Bool := inR b.1 0 16777215 && inR b.2 0 255
def rowOk (c : Int) (l : List Int) : Bool := decide ((l.length : Int) = c) && !(l.any fun n => !inR n 0 255)
def May (t : Tab) : Prop := (inR t.classes 1 255 = true ∧ inR t.next.length 1 255 = true ∧ (t.brk.length : Int) = t.next.length ∧ ¬ 255 < (t.bands.length : Int)) ∧ Each bandOk t.bands ∧ Each (rowOk t.classes) t.next
instance {t : Tab} : Decidable (May t) := inferInstanceAs (Decidable (_ ∧ _))
def e_table_may : Tab → List PV := fun t => [pT t]
noncomputable def g_table_may : List PV → Option (PV × List PV) := spec e_table_may (fun t => small t) fun t => (pB (decide (May t)), [])
theorem e_table_may_inj (a b : Tab) (h : e_table_may a = e_table_may b) : a = b := by
  obtain ⟨t1a, t1b, t1c, t1d⟩ := a; obtain ⟨t2a, t2b, t2c, t2d⟩ := b; simp [e_table_may, map_pI_inj, map_pB_inj, map_pY_inj, map_pBand_inj, map_sI_inj, Int.natCast_inj, UInt8.toNat_inj, UInt32.toNat_inj] at h; first | exact h | (simp [h]; done) | exact UInt32.toNat_inj.1 (by omega) | exact UInt8.toNat_inj.1 (by omega) | (simp only [Prod.mk.injEq, ← UInt8.toNat_inj, ← UInt32.toNat_inj] at *; omega) | grind
theorem Ok_table_may {t : Tab} {K : PV × List PV → Prop} : Ok (g_table_may [pT t]) K = ((small t) ∧ K (pB (decide (May t)), [])) := Ok_spec e_table_may_inj t
set_option maxHeartbeats 1000000 in
theorem impl_table_may {tbl : Tbl} {G : Nat → Option (List PV)} (hT : Tb tbl G) {T0 : Tbl} (h_table_between : tbl 56 = g_table_between) (h_slices_ContainsFunc_int : tbl 90 = g_slices_ContainsFunc_int T0) (h_table_may_1 : tbl 91 = g_table_may_1) (h0 : T0 91 = g_table_may_1) : Impl Try.prog G 51 (g_table_may) := by
  refine impl_p (E := En tbl G 68 k_table_may []) (c := _) hT mixed Try.func51 rfl rfl (fun a => by simp [e_table_may, pinned.eq_1, pinned.eq_2, PV.isMut.eq_1, PV.isMut.eq_2]) ?_
  rintro t hok
  refine ⟨by simp [e_table_may], ?_⟩
  replace hok : small t := hok
  unfold small at hok
  have ht : ∀ x, tb T0 91 [] (pI x) = (!inR x 0 255) := fun x => (tb_may_1 h0 x).1
  have hto : ∀ x, tbOk T0 91 [] (pI x) := fun x => (tb_may_1 h0 x).2
  simp -implicitDefEqProofs +contextual (maxSteps := 4000000) [-Int.not_le, -Int.not_lt, -Nat.not_le, -Nat.not_lt, -UInt32.toNat_or, -UInt32.toNat_xor, -UInt32.toNat_and, -UInt8.toNat_or, -UInt8.toNat_xor, -UInt8.toNat_and, -UInt32.toNat_add, -UInt8.toNat_add, -List.map_take, -List.map_drop, ← List.map_take, ← List.map_drop, -List.length_take, -List.length_drop, -List.map_replicate, rep_pY0, rep_pB0, rep_pI0, e_table_may.eq_1, Try.results51, h_table_between, Ok_table_between, h_slices_ContainsFunc_int, Ok_slices_ContainsFunc_int, h_table_may_1, Ok_table_may_1]
  (repeat' (first | exact (show drawD _ _ = true by decide +kernel) | exact (show _ = List.range' _ _ from rfl) | with_reducible refine and_imp_self' ?_ ?_ | with_reducible refine And.intro ?_ ?_ | with_reducible refine @Exists.intro Nat _ (i + 1) ?_ | with_reducible refine Exists.intro (show (_ : Nat) < _ by omega) ?_ | intro _)) <;> (try (first | omega | (unfold fits; omega) | assumption | with_reducible rfl | (simp only [inR_iff, inR_not, fits_iff] at *; omega)))
  all_goals try (have hm := ‹May t›; unfold May at hm; exfalso; simp_all; done)
  have hA : inR t.classes 1 255 = true ∧ inR t.next.length 1 255 = true ∧ (t.brk.length : Int) = t.next.length ∧ ¬ 255 < (t.bands.length : Int) := ⟨by assumption, by assumption, by assumption, by assumption⟩
  refine loopo (fun i => i ≤ t.bands.length ∧ Each bandOk (t.bands.take i))
    (fun i => [(1, .val (.ptr true [pI t.classes, sBand t.bands, sII t.next, sB t.brk]), 0, 0), (33, .pl 1 [] (.addr 0 1) 0, 0, 0), (34, .val (sBand t.bands), 0, 0), (35, .val (pI t.bands.length), 0, 0), (36, .val (pI i), 0, 0)])
    (fun i => t.bands.length - i) ?_ (s := 0) rfl ⟨Nat.zero_le _, Each.zero⟩
  rintro i ⟨hi, hp⟩
  simp -implicitDefEqProofs +contextual (maxSteps := 4000000) [-Int.not_le, -Int.not_lt, -Nat.not_le, -Nat.not_lt, -UInt32.toNat_or, -UInt32.toNat_xor, -UInt32.toNat_and, -UInt8.toNat_or, -UInt8.toNat_xor, -UInt8.toNat_and, -UInt32.toNat_add, -UInt8.toNat_add, -List.map_take, -List.map_drop, ← List.map_take, ← List.map_drop, -List.length_take, -List.length_drop, -List.map_replicate, rep_pY0, rep_pB0, rep_pI0, e_table_may.eq_1, Try.results51, h_table_between, Ok_table_between, h_slices_ContainsFunc_int, Ok_slices_ContainsFunc_int, h_table_may_1, Ok_table_may_1]
  (repeat' (first | exact (show drawD _ _ = true by decide +kernel) | exact (show _ = List.range' _ _ from rfl) | with_reducible refine and_imp_self' ?_ ?_ | with_reducible refine And.intro ?_ ?_ | with_reducible refine @Exists.intro Nat _ (i + 1) ?_ | with_reducible refine Exists.intro (show (_ : Nat) < _ by omega) ?_ | intro _)) <;> (try (first | omega | (unfold fits; omega) | assumption | with_reducible rfl | (simp only [inR_iff, inR_not, fits_iff] at *; omega)))
  all_goals try (have hm := Each.at ‹May t›.2.1 ‹i < t.bands.length›; unfold bandOk at hm; exfalso; simp_all; done)
  all_goals try (refine Each.succ ‹_› hp ?_; unfold bandOk; simp_all; done)
  have hB := Each.all ‹_› hp
  clear hp
  refine loopo (fun i => i ≤ t.next.length ∧ Each (rowOk t.classes) (t.next.take i))
    (fun i => [(1, .val (.ptr true [pI t.classes, sBand t.bands, sII t.next, sB t.brk]), 0, 0), (51, .pl 1 [] (.addr 0 2) 0, 0, 0), (52, .val (sII t.next), 0, 0), (53, .val (pI t.next.length), 0, 0), (54, .val (pI i), 0, 0)])
    (fun i => t.next.length - i) ?_ (s := 0) rfl ⟨Nat.zero_le _, Each.zero⟩
  rintro i ⟨hi, hp⟩
  simp -implicitDefEqProofs +contextual (maxSteps := 4000000) [-Int.not_le, -Int.not_lt, -Nat.not_le, -Nat.not_lt, -UInt32.toNat_or, -UInt32.toNat_xor, -UInt32.toNat_and, -UInt8.toNat_or, -UInt8.toNat_xor, -UInt8.toNat_and, -UInt32.toNat_add, -UInt8.toNat_add, -List.map_take, -List.map_drop, ← List.map_take, ← List.map_drop, -List.length_take, -List.length_drop, -List.map_replicate, rep_pY0, rep_pB0, rep_pI0, e_table_may.eq_1, Try.results51, h_table_between, Ok_table_between, h_slices_ContainsFunc_int, Ok_slices_ContainsFunc_int, h_table_may_1, Ok_table_may_1, hto, ht]
  (repeat' (first | exact (show drawD _ _ = true by decide +kernel) | exact (show _ = List.range' _ _ from rfl) | with_reducible refine and_imp_self' ?_ ?_ | with_reducible refine And.intro ?_ ?_ | with_reducible refine @Exists.intro Nat _ (i + 1) ?_ | with_reducible refine Exists.intro (show (_ : Nat) < _ by omega) ?_ | intro _)) <;> (try (first | omega | (unfold fits; omega) | assumption | with_reducible rfl | (simp only [inR_iff, inR_not, fits_iff] at *; omega)))
  · have hm := Each.at ‹May t›.2.2 ‹i < t.next.length›
    simp [rowOk] at hm
    have := hm.2 _ ‹_ ∈ _›
    simp_all
  · refine Each.succ ‹_› hp ?_
    simp [rowOk]
    exact ⟨by assumption, by assumption⟩
  · have hm := Each.at ‹May t›.2.2 ‹i < t.next.length›
    simp [rowOk] at hm
    exact absurd hm.1 ‹_›
  · exact ⟨hA, hB, Each.all ‹_› hp⟩

end Go.V
