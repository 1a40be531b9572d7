/- A part of the proof of SegmentWhole: contracts of functions, or what these lean on. No condition. -/
import Derived.Test.YtldoffdakikaeaaDoorA19
import Derived.Test.YtldoffdakikaeaaDoorP14
namespace Go.V
open Go.Proofs
set_option maxRecDepth 8000
set_option linter.unusedSimpArgs false
set_option linter.unusedVariables false
def runeE (p : Int × Int) : Value × Value := (.int .i32 p.1, .int .i64 p.2)
theorem runeE_inj (a b : Int × Int) (h : runeE a = runeE b) : a = b := by
  unfold runeE at h; simp at h; exact Prod.ext h.1 h.2
@[simp] theorem map_runeE_inj {l m : List (Int × Int)} : (l.map runeE = m.map runeE) = (l = m) := by
  apply propext
  exact ⟨fun h => by
    induction l generalizing m with
    | nil => cases m with
      | nil => rfl
      | cons b m => simp at h
    | cons a l ih => cases m with
      | nil => simp at h
      | cons b m =>
        simp only [List.map_cons, List.cons.injEq] at h
        rw [runeE_inj _ _ h.1, ih h.2], fun h => by rw [h]⟩
theorem keysRune : Keys Tryd.prog 21 (fun n : Int => Value.int .i32 n) := keys_int Tryd.underlying21
theorem mapPut_rune {a v : Int} {l : List (Int × Int)} : mapPut Tryd.prog 21 (.int .i32 a) (.int .i64 v) (l.map runeE) = some ((mput a v l).map runeE) :=
  mapPut_keys keysRune (ve := fun v : Int => Value.int .i64 v) (fun _ => rfl) (k := a) (v := v) (l := l)
theorem mapFind_rune {a : Int} {l : List (Int × Int)} : mapFind Tryd.prog 21 (.int .i32 a) (l.map runeE) = some ((mget a l).map fun q => (q.1, Value.int .i64 q.2)) :=
  mapFind_keys keysRune (ve := fun v : Int => Value.int .i64 v) (k := a) (l := l)
attribute [simp] mapPut_rune mapFind_rune
abbrev wP (t : Tab) (M : List (Int × Int)) (s : Int) : PV := .ptr true [pI t.classes, sBand t.bands, sII t.next, sB t.brk, .map true (M.map runeE), pI s]
def e_refine_Of : (List (Int × Int)) × Int → List PV := fun (l, v) => [sBand l, pI v]
noncomputable def g_refine_Of : List PV → Option (PV × List PV) := spec e_refine_Of (fun (l, v) => l.length < 2 ^ 62) fun (l, v) => (.tup [pI (classV l v), pB (classB l v)], [])
theorem e_refine_Of_inj (a b : (List (Int × Int)) × Int) (h : e_refine_Of a = e_refine_Of b) : a = b := by
  obtain ⟨l1, v1⟩ := a; obtain ⟨l2, v2⟩ := b; simp [e_refine_Of, map_pI_inj, map_pB_inj, map_pY_inj, map_pBand_inj, map_sI_inj, str_inj, Int.natCast_inj, UInt8.toNat_inj, UInt32.toNat_inj] at h; first | exact h | (simp [h]; done) | exact UInt32.toNat_inj.1 (by omega) | exact UInt8.toNat_inj.1 (by omega) | (simp only [Prod.mk.injEq, ← UInt8.toNat_inj, ← UInt32.toNat_inj] at *; omega) | grind
theorem Ok_refine_Of {l : List (Int × Int)} {v : Int} {K : PV × List PV → Prop} : Ok (g_refine_Of [sBand l, pI v]) K = ((l.length < 2 ^ 62) ∧ K (.tup [pI (classV l v), pB (classB l v)], [])) := Ok_spec e_refine_Of_inj (l, v)
set_option maxHeartbeats 1000000 in
theorem impl_refine_Of {tbl : Tbl} {G : Nat → Option (List PV)} (hT : Tb tbl G) (h_scalar_Is : tbl 46 = g_scalar_Is) : Impl Tryd.prog G 78 (g_refine_Of) := by
  refine impl_p (E := En tbl G 29 k_refine_Of []) (c := _) hT mixed Tryd.func78 rfl rfl (fun a => by simp [e_refine_Of, pinned.eq_1, pinned.eq_2, PV.isMut.eq_1, PV.isMut.eq_2]) ?_
  rintro ⟨l, v⟩ hok
  refine ⟨by simp [e_refine_Of], ?_⟩
  replace hok : l.length < 2 ^ 62 := hok
  cases hS : isSc v
  · obtain ⟨h1, h2⟩ := classB_no (l := l) hS
    simp -implicitDefEqProofs +contextual (maxSteps := 4000000) [-Int.not_le, -Int.not_lt, -Nat.not_le, -Nat.not_lt, -UInt32.toNat_or, -UInt32.toNat_xor, -UInt32.toNat_and, -UInt8.toNat_or, -UInt8.toNat_xor, -UInt8.toNat_and, -UInt32.toNat_add, -UInt8.toNat_add, -List.map_take, -List.map_drop, ← List.map_take, ← List.map_drop, -List.length_take, -List.length_drop, -List.map_replicate, rep_pY0, rep_pB0, rep_pI0, e_refine_Of.eq_1, Tryd.results78, h_scalar_Is, Ok_scalar_Is, hS, h1, h2]
  have hb : bandI l v = lastTo l v l.length := by unfold bandI; rw [if_pos hS]
  simp -implicitDefEqProofs +contextual (maxSteps := 4000000) [-Int.not_le, -Int.not_lt, -Nat.not_le, -Nat.not_lt, -UInt32.toNat_or, -UInt32.toNat_xor, -UInt32.toNat_and, -UInt8.toNat_or, -UInt8.toNat_xor, -UInt8.toNat_and, -UInt32.toNat_add, -UInt8.toNat_add, -List.map_take, -List.map_drop, ← List.map_take, ← List.map_drop, -List.length_take, -List.length_drop, -List.map_replicate, rep_pY0, rep_pB0, rep_pI0, e_refine_Of.eq_1, Tryd.results78, h_scalar_Is, Ok_scalar_Is, hS]
  refine ⟨by unfold fits; omega, fun _ => ?_⟩
  refine loopu (fun n => n ≤ l.length ∧ lastTo l v l.length = lastTo l v n)
    (fun n => [(6, pI ((n : Int) - 1))])
    (fun n => n) ?_ (s := l.length) rfl ⟨Nat.le_refl _, rfl⟩
  rintro n ⟨hn, hp⟩
  cases n with
  | zero =>
    have e : bandI l v = -1 := by rw [hb, hp]; rfl
    have h1 : classB l v = false := by unfold classB; rw [e]; rfl
    have h2 : classV l v = 0 := by unfold classV; rw [e]; rfl
    simp -implicitDefEqProofs +contextual (maxSteps := 4000000) [-Int.not_le, -Int.not_lt, -Nat.not_le, -Nat.not_lt, -UInt32.toNat_or, -UInt32.toNat_xor, -UInt32.toNat_and, -UInt8.toNat_or, -UInt8.toNat_xor, -UInt8.toNat_and, -UInt32.toNat_add, -UInt8.toNat_add, -List.map_take, -List.map_drop, ← List.map_take, ← List.map_drop, -List.length_take, -List.length_drop, -List.map_replicate, rep_pY0, rep_pB0, rep_pI0, e_refine_Of.eq_1, Tryd.results78, h_scalar_Is, Ok_scalar_Is, h1, h2]
  | succ n =>
    have hn' : n < l.length := by omega
    have e1 : ((n + 1 : Nat) : Int) - 1 = n := by omega
    have hg : l.getD n (0, 0) = l[n] := by simp [List.getD_eq_getElem?_getD, hn']
    rw [lastTo, hg] at hp
    by_cases hc : l[n].1 ≤ v
    · rw [if_pos hc] at hp
      have e : bandI l v = n := by rw [hb, hp]
      have h1 : classB l v = true := by unfold classB; rw [e]; simp
      have h2 : classV l v = l[n].2 := by unfold classV; rw [e, if_pos (by omega), Int.toNat_natCast, hg]
      simp -implicitDefEqProofs +contextual (maxSteps := 4000000) [-Int.not_le, -Int.not_lt, -Nat.not_le, -Nat.not_lt, -UInt32.toNat_or, -UInt32.toNat_xor, -UInt32.toNat_and, -UInt8.toNat_or, -UInt8.toNat_xor, -UInt8.toNat_and, -UInt32.toNat_add, -UInt8.toNat_add, -List.map_take, -List.map_drop, ← List.map_take, ← List.map_drop, -List.length_take, -List.length_drop, -List.map_replicate, rep_pY0, rep_pB0, rep_pI0, e_refine_Of.eq_1, Tryd.results78, h_scalar_Is, Ok_scalar_Is, e1, hn', hc, h1, h2]
    · rw [if_neg hc] at hp
      simp -implicitDefEqProofs +contextual (maxSteps := 4000000) [-Int.not_le, -Int.not_lt, -Nat.not_le, -Nat.not_lt, -UInt32.toNat_or, -UInt32.toNat_xor, -UInt32.toNat_and, -UInt8.toNat_or, -UInt8.toNat_xor, -UInt8.toNat_and, -UInt32.toNat_add, -UInt8.toNat_add, -List.map_take, -List.map_drop, ← List.map_take, ← List.map_drop, -List.length_take, -List.length_drop, -List.map_replicate, rep_pY0, rep_pB0, rep_pI0, e_refine_Of.eq_1, Tryd.results78, h_scalar_Is, Ok_scalar_Is, e1, hn', hc]
      exact ⟨by unfold fits; omega, fun _ => ⟨n, ⟨by omega, hp⟩, by omega, rfl⟩⟩
def e_ref04_Of : (List (Int × Int)) × Int → List PV := fun (l, v) => [sBand l, pI v]
noncomputable def g_ref04_Of : List PV → Option (PV × List PV) := spec e_ref04_Of (fun (l, v) => l.length < 2 ^ 62) fun (l, v) => (pI (bandI l v), [])
theorem e_ref04_Of_inj (a b : (List (Int × Int)) × Int) (h : e_ref04_Of a = e_ref04_Of b) : a = b := by
  obtain ⟨l1, v1⟩ := a; obtain ⟨l2, v2⟩ := b; simp [e_ref04_Of, map_pI_inj, map_pB_inj, map_pY_inj, map_pBand_inj, map_sI_inj, str_inj, Int.natCast_inj, UInt8.toNat_inj, UInt32.toNat_inj] at h; first | exact h | (simp [h]; done) | exact UInt32.toNat_inj.1 (by omega) | exact UInt8.toNat_inj.1 (by omega) | (simp only [Prod.mk.injEq, ← UInt8.toNat_inj, ← UInt32.toNat_inj] at *; omega) | grind
theorem Ok_ref04_Of {l : List (Int × Int)} {v : Int} {K : PV × List PV → Prop} : Ok (g_ref04_Of [sBand l, pI v]) K = ((l.length < 2 ^ 62) ∧ K (pI (bandI l v), [])) := Ok_spec e_ref04_Of_inj (l, v)
set_option maxHeartbeats 1000000 in
theorem impl_ref04_Of {tbl : Tbl} {G : Nat → Option (List PV)} (hT : Tb tbl G) (h_ref01_Is : tbl 50 = g_ref01_Is) : Impl Tryd.prog G 70 (g_ref04_Of) := by
  refine impl_p (E := En tbl G 26 k_ref04_Of []) (c := _) hT mixed Tryd.func70 rfl rfl (fun a => by simp [e_ref04_Of, pinned.eq_1, pinned.eq_2, PV.isMut.eq_1, PV.isMut.eq_2]) ?_
  rintro ⟨l, v⟩ hok
  refine ⟨by simp [e_ref04_Of], ?_⟩
  replace hok : l.length < 2 ^ 62 := hok
  cases hS : isSc v
  · have e : bandI l v = -1 := by unfold bandI; rw [if_neg (by simp [hS])]
    simp -implicitDefEqProofs +contextual (maxSteps := 4000000) [-Int.not_le, -Int.not_lt, -Nat.not_le, -Nat.not_lt, -UInt32.toNat_or, -UInt32.toNat_xor, -UInt32.toNat_and, -UInt8.toNat_or, -UInt8.toNat_xor, -UInt8.toNat_and, -UInt32.toNat_add, -UInt8.toNat_add, -List.map_take, -List.map_drop, ← List.map_take, ← List.map_drop, -List.length_take, -List.length_drop, -List.map_replicate, rep_pY0, rep_pB0, rep_pI0, e_ref04_Of.eq_1, Tryd.results70, h_ref01_Is, Ok_ref01_Is, hS, e]
    refine loopu (fun (_ : Unit) => True) (fun _ => [(5, pI (-1))]) (fun _ => 0) ?_ (s := ()) rfl trivial
    rintro - -
    simp -implicitDefEqProofs +contextual (maxSteps := 4000000) [-Int.not_le, -Int.not_lt, -Nat.not_le, -Nat.not_lt, -UInt32.toNat_or, -UInt32.toNat_xor, -UInt32.toNat_and, -UInt8.toNat_or, -UInt8.toNat_xor, -UInt8.toNat_and, -UInt32.toNat_add, -UInt8.toNat_add, -List.map_take, -List.map_drop, ← List.map_take, ← List.map_drop, -List.length_take, -List.length_drop, -List.map_replicate, rep_pY0, rep_pB0, rep_pI0, e_ref04_Of.eq_1, Tryd.results70, h_ref01_Is, Ok_ref01_Is, hS, e]
  have hb : bandI l v = lastTo l v l.length := by unfold bandI; rw [if_pos hS]
  simp -implicitDefEqProofs +contextual (maxSteps := 4000000) [-Int.not_le, -Int.not_lt, -Nat.not_le, -Nat.not_lt, -UInt32.toNat_or, -UInt32.toNat_xor, -UInt32.toNat_and, -UInt8.toNat_or, -UInt8.toNat_xor, -UInt8.toNat_and, -UInt32.toNat_add, -UInt8.toNat_add, -List.map_take, -List.map_drop, ← List.map_take, ← List.map_drop, -List.length_take, -List.length_drop, -List.map_replicate, rep_pY0, rep_pB0, rep_pI0, e_ref04_Of.eq_1, Tryd.results70, h_ref01_Is, Ok_ref01_Is, hS]
  refine loopu (fun n => n ≤ l.length)
    (fun n => [(5, pI (lastTo l v n)), (6, pI n)])
    (fun n => l.length - n) ?_ (s := 0) rfl (by simp)
  rintro n hn
  by_cases hn' : n < l.length
  · have hg : l.getD n (0, 0) = l[n] := by simp [List.getD_eq_getElem?_getD, hn']
    have hs : lastTo l v (n + 1) = if l[n].1 ≤ v then (n : Int) else lastTo l v n := by rw [lastTo, hg]
    simp -implicitDefEqProofs +contextual (maxSteps := 4000000) [-Int.not_le, -Int.not_lt, -Nat.not_le, -Nat.not_lt, -UInt32.toNat_or, -UInt32.toNat_xor, -UInt32.toNat_and, -UInt8.toNat_or, -UInt8.toNat_xor, -UInt8.toNat_and, -UInt32.toNat_add, -UInt8.toNat_add, -List.map_take, -List.map_drop, ← List.map_take, ← List.map_drop, -List.length_take, -List.length_drop, -List.map_replicate, rep_pY0, rep_pB0, rep_pI0, e_ref04_Of.eq_1, Tryd.results70, h_ref01_Is, Ok_ref01_Is, hS, hn']
    refine ⟨fun a => ⟨by unfold fits; omega, fun _ => ⟨n + 1, by omega, by omega, by rw [hs, if_pos a], by omega⟩⟩, fun a => ⟨by unfold fits; omega, fun _ => ⟨n + 1, by omega, by omega, by rw [hs, if_neg a], by omega⟩⟩⟩
  · obtain rfl : n = l.length := by omega
    simp -implicitDefEqProofs +contextual (maxSteps := 4000000) [-Int.not_le, -Int.not_lt, -Nat.not_le, -Nat.not_lt, -UInt32.toNat_or, -UInt32.toNat_xor, -UInt32.toNat_and, -UInt8.toNat_or, -UInt8.toNat_xor, -UInt8.toNat_and, -UInt32.toNat_add, -UInt8.toNat_add, -List.map_take, -List.map_drop, ← List.map_take, ← List.map_drop, -List.length_take, -List.length_drop, -List.map_replicate, rep_pY0, rep_pB0, rep_pI0, e_ref04_Of.eq_1, Tryd.results70, h_ref01_Is, Ok_ref01_Is, hS, hn', hb]
def e_walk_begun : Tab → List PV := fun t => [pT t]
noncomputable def g_walk_begun : List PV → Option (PV × List PV) := spec e_walk_begun (fun t => wide t) fun t => (.tup [wP t [] 0, pB (decide (validE t = 0))], [])
theorem e_walk_begun_inj (a b : Tab) (h : e_walk_begun a = e_walk_begun b) : a = b := by
  obtain ⟨t1a, t1b, t1c, t1d⟩ := a; obtain ⟨t2a, t2b, t2c, t2d⟩ := b; simp [e_walk_begun, map_pI_inj, map_pB_inj, map_pY_inj, map_pBand_inj, map_sI_inj, str_inj, Int.natCast_inj, UInt8.toNat_inj, UInt32.toNat_inj] at h; first | exact h | (simp [h]; done) | exact UInt32.toNat_inj.1 (by omega) | exact UInt8.toNat_inj.1 (by omega) | (simp only [Prod.mk.injEq, ← UInt8.toNat_inj, ← UInt32.toNat_inj] at *; omega) | grind
theorem Ok_walk_begun {t : Tab} {K : PV × List PV → Prop} : Ok (g_walk_begun [pT t]) K = ((wide t) ∧ K (.tup [wP t [] 0, pB (decide (validE t = 0))], [])) := Ok_spec e_walk_begun_inj t
set_option maxHeartbeats 1000000 in
theorem impl_walk_begun {tbl : Tbl} {G : Nat → Option (List PV)} (hT : Tb tbl G) (h_valid_Table : tbl 66 = g_valid_Table) : Impl Tryd.prog G 57 (g_walk_begun) := by
  refine impl_p (E := En tbl G 11 k_walk_begun []) (c := _) hT mixed Tryd.func57 rfl rfl (fun a => by simp [e_walk_begun, pinned.eq_1, pinned.eq_2, PV.isMut.eq_1, PV.isMut.eq_2]) ?_
  rintro t hok
  refine ⟨by simp [e_walk_begun], ?_⟩
  replace hok : wide t := hok
  simp -implicitDefEqProofs +contextual (maxSteps := 4000000) [-Int.not_le, -Int.not_lt, -Nat.not_le, -Nat.not_lt, -UInt32.toNat_or, -UInt32.toNat_xor, -UInt32.toNat_and, -UInt8.toNat_or, -UInt8.toNat_xor, -UInt8.toNat_and, -UInt32.toNat_add, -UInt8.toNat_add, -List.map_take, -List.map_drop, ← List.map_take, ← List.map_drop, -List.length_take, -List.length_drop, -List.map_replicate, rep_pY0, rep_pB0, rep_pI0, e_walk_begun.eq_1, Tryd.results57, h_valid_Table, Ok_valid_Table, -semMapSet.eq_1, hok]
  decide +kernel
def Mn (l M : List (Int × Int)) (v : Int) : List (Int × Int) := if classB l v = true ∧ mget v M = none then mput v (classV l v) M else M
theorem Mn_kn {l M : List (Int × Int)} {v : Int} (h : Kn l M) : Kn l (Mn l M v) := by
  unfold Mn; split
  · rename_i hc
    rw [mput_none (mget_none.1 hc.2)]
    intro p hp
    rcases List.mem_append.1 hp with hp | hp
    · exact h p hp
    · obtain rfl := List.mem_singleton.1 hp; exact ⟨hc.1, rfl⟩
  · exact h
theorem Kn_get {l M : List (Int × Int)} {v : Int} {q : Nat × Int} (h : Kn l M) (hm : mget v M = some q) : classB l v = true ∧ q.2 = classV l v := by
  obtain ⟨j, u⟩ := q
  obtain ⟨m, _, h2, _⟩ := mgetI_some hm
  exact h _ (List.mem_of_getElem? h2)
@[simp] theorem ofVal_found2 {k : IntKind} {a : Int} {b : Bool} : ofVal (.tuple #[.int k a, .bool b]) = some (.tup [.prim (.int k a), .prim (.bool b)]) := rfl
def e_walker_class : Tab × (List (Int × Int)) × Int × Int → List PV := fun (t, M, s, v) => [wP t M s, pI v]
noncomputable def g_walker_class : List PV → Option (PV × List PV) := spec e_walker_class (fun (t, M, s, v) => Kn t.bands M ∧ t.bands.length < 2 ^ 62) fun (t, M, s, v) => (.tup [pI (classV t.bands v), pB (classB t.bands v)], [wP t (Mn t.bands M v) s])
theorem e_walker_class_inj (a b : Tab × (List (Int × Int)) × Int × Int) (h : e_walker_class a = e_walker_class b) : a = b := by
  obtain ⟨⟨t1a, t1b, t1c, t1d⟩, M1, s1, v1⟩ := a; obtain ⟨⟨t2a, t2b, t2c, t2d⟩, M2, s2, v2⟩ := b; simp [e_walker_class, map_pI_inj, map_pB_inj, map_pY_inj, map_pBand_inj, map_sI_inj, str_inj, Int.natCast_inj, UInt8.toNat_inj, UInt32.toNat_inj] at h; first | exact h | (simp [h]; done) | exact UInt32.toNat_inj.1 (by omega) | exact UInt8.toNat_inj.1 (by omega) | (simp only [Prod.mk.injEq, ← UInt8.toNat_inj, ← UInt32.toNat_inj] at *; omega) | grind
theorem Ok_walker_class {t : Tab} {M : List (Int × Int)} {s : Int} {v : Int} {K : PV × List PV → Prop} : Ok (g_walker_class [wP t M s, pI v]) K = ((Kn t.bands M ∧ t.bands.length < 2 ^ 62) ∧ K (.tup [pI (classV t.bands v), pB (classB t.bands v)], [wP t (Mn t.bands M v) s])) := Ok_spec e_walker_class_inj (t, M, s, v)
set_option maxHeartbeats 1000000 in
theorem impl_walker_class {tbl : Tbl} {G : Nat → Option (List PV)} (hT : Tb tbl G) (h_refine_Of : tbl 78 = g_refine_Of) : Impl Tryd.prog G 67 (g_walker_class) := by
  refine impl_p (E := En tbl G 50 k_walker_class [0]) (c := _) hT mixed Tryd.func67 rfl rfl (fun a => by simp [e_walker_class, pinned.eq_1, pinned.eq_2, PV.isMut.eq_1, PV.isMut.eq_2]) ?_
  rintro ⟨t, M, s, v⟩ hok
  refine ⟨by simp [e_walker_class], ?_⟩
  replace hok : Kn t.bands M ∧ t.bands.length < 2 ^ 62 := hok
  obtain ⟨hk, hb⟩ := hok
  by_cases h1 : v < 0
  · obtain ⟨e1, e2⟩ := classB_no (l := t.bands) (v := v) (isSc_not.2 (by omega))
    have e3 : Mn t.bands M v = M := by unfold Mn; rw [if_neg (by simp [e1])]
    simp -implicitDefEqProofs +contextual (maxSteps := 4000000) [-Int.not_le, -Int.not_lt, -Nat.not_le, -Nat.not_lt, -UInt32.toNat_or, -UInt32.toNat_xor, -UInt32.toNat_and, -UInt8.toNat_or, -UInt8.toNat_xor, -UInt8.toNat_and, -UInt32.toNat_add, -UInt8.toNat_add, -List.map_take, -List.map_drop, ← List.map_take, ← List.map_drop, -List.length_take, -List.length_drop, -List.map_replicate, rep_pY0, rep_pB0, rep_pI0, e_walker_class.eq_1, Tryd.results67, h_refine_Of, Ok_refine_Of, -semMapSet.eq_1, h1, e1, e2, e3]
  by_cases h2 : 1114111 < v
  · obtain ⟨e1, e2⟩ := classB_no (l := t.bands) (v := v) (isSc_not.2 (by omega))
    have e3 : Mn t.bands M v = M := by unfold Mn; rw [if_neg (by simp [e1])]
    simp -implicitDefEqProofs +contextual (maxSteps := 4000000) [-Int.not_le, -Int.not_lt, -Nat.not_le, -Nat.not_lt, -UInt32.toNat_or, -UInt32.toNat_xor, -UInt32.toNat_and, -UInt8.toNat_or, -UInt8.toNat_xor, -UInt8.toNat_and, -UInt32.toNat_add, -UInt8.toNat_add, -List.map_take, -List.map_drop, ← List.map_take, ← List.map_drop, -List.length_take, -List.length_drop, -List.map_replicate, rep_pY0, rep_pB0, rep_pI0, e_walker_class.eq_1, Tryd.results67, h_refine_Of, Ok_refine_Of, -semMapSet.eq_1, h1, h2, e1, e2, e3]
  have w := wrap32 (n := v) (by omega)
  have hf : fits v := by unfold fits; omega
  cases hm : mget v M with
  | some q =>
    obtain ⟨e1, e2⟩ := Kn_get hk hm
    have e3 : Mn t.bands M v = M := by unfold Mn; rw [if_neg (by simp [hm])]
    simp -implicitDefEqProofs +contextual (maxSteps := 4000000) [-Int.not_le, -Int.not_lt, -Nat.not_le, -Nat.not_lt, -UInt32.toNat_or, -UInt32.toNat_xor, -UInt32.toNat_and, -UInt8.toNat_or, -UInt8.toNat_xor, -UInt8.toNat_and, -UInt32.toNat_add, -UInt8.toNat_add, -List.map_take, -List.map_drop, ← List.map_take, ← List.map_drop, -List.length_take, -List.length_drop, -List.map_replicate, rep_pY0, rep_pB0, rep_pI0, e_walker_class.eq_1, Tryd.results67, h_refine_Of, Ok_refine_Of, -semMapSet.eq_1, h1, h2, w, hm, e1, e2, e3]
  | none =>
    cases hc : classB t.bands v
    · have e3 : Mn t.bands M v = M := by unfold Mn; rw [if_neg (by simp [hc])]
      simp -implicitDefEqProofs +contextual (maxSteps := 4000000) [-Int.not_le, -Int.not_lt, -Nat.not_le, -Nat.not_lt, -UInt32.toNat_or, -UInt32.toNat_xor, -UInt32.toNat_and, -UInt8.toNat_or, -UInt8.toNat_xor, -UInt8.toNat_and, -UInt32.toNat_add, -UInt8.toNat_add, -List.map_take, -List.map_drop, ← List.map_take, ← List.map_drop, -List.length_take, -List.length_drop, -List.map_replicate, rep_pY0, rep_pB0, rep_pI0, e_walker_class.eq_1, Tryd.results67, h_refine_Of, Ok_refine_Of, -semMapSet.eq_1, h1, h2, w, hf, hm, hc, hb, e3]
    · have e3 : Mn t.bands M v = mput v (classV t.bands v) M := by unfold Mn; rw [if_pos ⟨hc, hm⟩]
      simp -implicitDefEqProofs +contextual (maxSteps := 4000000) [-Int.not_le, -Int.not_lt, -Nat.not_le, -Nat.not_lt, -UInt32.toNat_or, -UInt32.toNat_xor, -UInt32.toNat_and, -UInt8.toNat_or, -UInt8.toNat_xor, -UInt8.toNat_and, -UInt32.toNat_add, -UInt8.toNat_add, -List.map_take, -List.map_drop, ← List.map_take, ← List.map_drop, -List.length_take, -List.length_drop, -List.map_replicate, rep_pY0, rep_pB0, rep_pI0, e_walker_class.eq_1, Tryd.results67, h_refine_Of, Ok_refine_Of, -semMapSet.eq_1, h1, h2, w, hf, hm, hc, hb, e3]

end Go.V
