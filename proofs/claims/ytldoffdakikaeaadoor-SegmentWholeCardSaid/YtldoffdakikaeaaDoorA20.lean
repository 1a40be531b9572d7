/- A part of the proof of SegmentWhole: contracts of functions, or what these lean on. No condition. -/
import Derived.Test.YtldoffdakikaeaaDoorA18
import Derived.Test.YtldoffdakikaeaaDoorA5
import Derived.Test.YtldoffdakikaeaaDoorVMp
namespace Go.V
open Go.Proofs
set_option maxRecDepth 8000
set_option linter.unusedSimpArgs false
set_option linter.unusedVariables false
def pairE (p : (Int × Int) × Int) : Value × Value := (.agg #[.int .i64 p.1.1, .int .i64 p.1.2], .int .i64 p.2)
theorem keysPair : Keys Tryd.prog 128 (fun p : Int × Int => Value.agg #[.int .i64 p.1, .int .i64 p.2]) := by
  refine keys_struct (ke := fun p : Int × Int => #[.int .i64 p.1, .int .i64 p.2]) Tryd.underlying128 (by decide +kernel) (fun a b => ?_) (fun a => ?_) (fun a => rfl) (fun a => by simp [Instr.sameBits])
  · obtain ⟨a1, a2⟩ := a; obtain ⟨b1, b2⟩ := b
    simp [eqL, Tryd.underlying3]
    by_cases h1 : a1 = b1 <;> by_cases h2 : a2 = b2 <;> simp [h1, h2]
  · simp [ckL, Tryd.underlying3]
theorem mapPut_pair {a b v : Int} {l : List ((Int × Int) × Int)} : mapPut Tryd.prog 128 (.agg #[.int .i64 a, .int .i64 b]) (.int .i64 v) (l.map pairE) = some ((mput (a, b) v l).map pairE) :=
  mapPut_keys keysPair (ve := fun v : Int => Value.int .i64 v) (fun _ => rfl) (k := (a, b)) (v := v) (l := l)
theorem mapPut_pair0 {a b v : Int} : mapPut Tryd.prog 128 (.agg #[.int .i64 a, .int .i64 b]) (.int .i64 v) [] = some ([((a, b), v)].map pairE) := mapPut_pair (l := [])
theorem mapFind_pair {a b : Int} {l : List ((Int × Int) × Int)} : mapFind Tryd.prog 128 (.agg #[.int .i64 a, .int .i64 b]) (l.map pairE) = some ((mget (a, b) l).map fun q => (q.1, Value.int .i64 q.2)) :=
  mapFind_keys keysPair (ve := fun v : Int => Value.int .i64 v) (k := (a, b)) (l := l)
@[simp] theorem zeroV_int : pureRun Tryd.prog (zeroValue 3) = some (.int .i64 0) := by kernel_rfl
@[simp] theorem ofVal_found {k : IntKind} {a : Int} {b : Bool} : ofVal (.tuple #[.int k a, .bool b]) = some (.tup [.prim (.int k a), .prim (.bool b)]) := rfl
attribute [simp] mapPut_pair mapPut_pair0 mapFind_pair
abbrev dP (p : Nat × Nat) : PV := .agg [pI p.1, pI p.2]
def ip (p : Nat × Nat) : Int × Int := ((p.1 : Int), (p.2 : Int))
def e_valid_alike : Tab × Nat × Nat → List PV := fun (t, a, b) => [pT t, .agg [pI a, pI b]]
noncomputable def g_valid_alike : List PV → Option (PV × List PV) := spec e_valid_alike (fun (t, a, b) => small t ∧ Cnt t ∧ nxtV t = true ∧ a < t.next.length ∧ b < t.next.length) fun (t, a, b) => (pB (alk t a b), [])
theorem e_valid_alike_inj (a b : Tab × Nat × Nat) (h : e_valid_alike a = e_valid_alike b) : a = b := by
  obtain ⟨⟨t1a, t1b, t1c, t1d⟩, a1, b1⟩ := a; obtain ⟨⟨t2a, t2b, t2c, t2d⟩, a2, b2⟩ := b; simp [e_valid_alike, map_pI_inj, map_pB_inj, map_pY_inj, map_pBand_inj, map_sI_inj, str_inj, Int.natCast_inj, UInt8.toNat_inj, UInt32.toNat_inj] at h; first | exact h | (simp [h]; done) | exact UInt32.toNat_inj.1 (by omega) | exact UInt8.toNat_inj.1 (by omega) | (simp only [Prod.mk.injEq, ← UInt8.toNat_inj, ← UInt32.toNat_inj] at *; omega) | grind
theorem Ok_valid_alike {t : Tab} {a : Nat} {b : Nat} {K : PV × List PV → Prop} : Ok (g_valid_alike [pT t, .agg [pI a, pI b]]) K = ((small t ∧ Cnt t ∧ nxtV t = true ∧ a < t.next.length ∧ b < t.next.length) ∧ K (pB (alk t a b), [])) := Ok_spec e_valid_alike_inj (t, a, b)
set_option maxHeartbeats 1000000 in
theorem impl_valid_alike {tbl : Tbl} {G : Nat → Option (List PV)} (hT : Tb tbl G) : Impl Tryd.prog G 86 (g_valid_alike) := by
  refine impl_p (E := En tbl G 79 k_valid_alike []) (c := _) hT mixed Tryd.func86 rfl rfl (fun a => by simp [e_valid_alike, pinned.eq_1, pinned.eq_2, PV.isMut.eq_1, PV.isMut.eq_2]) ?_
  rintro ⟨t, a, b⟩ hok
  refine ⟨by simp [e_valid_alike], ?_⟩
  replace hok : small t ∧ Cnt t ∧ nxtV t = true ∧ a < t.next.length ∧ b < t.next.length := hok
  obtain ⟨hok, hC, hn, ha, hb⟩ := hok
  unfold small at hok
  simp -implicitDefEqProofs +contextual (maxSteps := 4000000) [-Int.not_le, -Int.not_lt, -Nat.not_le, -Nat.not_lt, -UInt32.toNat_or, -UInt32.toNat_xor, -UInt32.toNat_and, -UInt8.toNat_or, -UInt8.toNat_xor, -UInt8.toNat_and, -UInt32.toNat_add, -UInt8.toNat_add, -List.map_take, -List.map_drop, ← List.map_take, ← List.map_drop, -List.length_take, -List.length_drop, -List.map_replicate, rep_pY0, rep_pB0, rep_pI0, e_valid_alike.eq_1, Tryd.results86, -semMapSet.eq_1]
  refine loopu (fun (x : Nat × List (Nat × Nat) × List ((Int × Int) × Int)) => Met t a b t.next.length x.2.1 x.1 ∧ x.2.2.map (·.1) = x.2.1.map ip)
    (fun x => [(5, .map true (x.2.2.map pairE)), (6, .sl true 2 ((x.2.1.drop x.1).map dP))])
    (fun x => t.next.length * t.next.length - x.1) ?_ (s := (0, [(a, b)], [((a, b), 0)])) rfl ⟨Met.init ha hb, rfl⟩
  rintro ⟨k, D, M⟩ ⟨hM, hk⟩
  simp only at hM hk
  simp -implicitDefEqProofs +contextual (maxSteps := 4000000) [-Int.not_le, -Int.not_lt, -Nat.not_le, -Nat.not_lt, -UInt32.toNat_or, -UInt32.toNat_xor, -UInt32.toNat_and, -UInt8.toNat_or, -UInt8.toNat_xor, -UInt8.toNat_and, -UInt32.toNat_add, -UInt8.toNat_add, -List.map_take, -List.map_drop, ← List.map_take, ← List.map_drop, -List.length_take, -List.length_drop, -List.map_replicate, rep_pY0, rep_pB0, rep_pI0, e_valid_alike.eq_1, Tryd.results86, -semMapSet.eq_1]
  have hkd : (D.drop k).length = D.length - k := List.length_drop
  have hln := hM.len
  have hn5 := hC.n
  have hn25 : t.next.length * t.next.length ≤ 25 := Nat.mul_le_mul hn5.2 hn5.2
  have hbl := hC.k
  have hI := inn_of hC hn
  refine ⟨fun a1 => ?_, fun a1 => alk_iff.2 (hM.all (by omega))⟩
  have hkD : k < D.length := by omega
  have hpm := hM.lt _ (List.getElem_mem hkD)
  refine ⟨by omega, fun a2 => ⟨by omega, fun a3 => ⟨by decide +kernel, fun a4 => alk_not.2 (hM.no hkD (by rw [bk_eq a2, bk_eq a3]; exact a4)), fun a4 => ?_⟩⟩⟩
  have hsame : bk t D[k].1 = bk t D[k].2 := by rw [bk_eq a2, bk_eq a3]; exact a4
  have hst := hM.step hI hkD hsame
  refine loopu (fun (x : Nat × List ((Int × Int) × Int)) => x.1 ≤ t.classes.toNat ∧ x.2.map (·.1) = (addC t D[k] D x.1).map ip)
    (fun x => [(5, .map true (x.2.map pairE)), (6, .sl true 2 (((addC t D[k] D x.1).drop k).map dP)), (40, pI x.1)])
    (fun x => t.classes.toNat - x.1) ?_ (s := (0, M)) rfl ⟨Nat.zero_le _, hk⟩
  rintro ⟨c, M'⟩ ⟨hc, hk'⟩
  simp only at hc hk'
  have h8 := hC.c
  by_cases hcc : c < t.classes.toNat
  case neg =>
    have h0 : ¬ (c : Int) < t.classes := by omega
    simp -implicitDefEqProofs +contextual (maxSteps := 4000000) [-Int.not_le, -Int.not_lt, -Nat.not_le, -Nat.not_lt, -UInt32.toNat_or, -UInt32.toNat_xor, -UInt32.toNat_and, -UInt8.toNat_or, -UInt8.toNat_xor, -UInt8.toNat_and, -UInt32.toNat_add, -UInt8.toNat_add, -List.map_take, -List.map_drop, ← List.map_take, ← List.map_drop, -List.length_take, -List.length_drop, -List.map_replicate, rep_pY0, rep_pB0, rep_pI0, e_valid_alike.eq_1, Tryd.results86, -semMapSet.eq_1, h0]
    obtain rfl : c = t.classes.toNat := by omega
    have hl1 := addC_len (t := t) (p := D[k]) (D := D) (c := t.classes.toNat)
    have hdl : (List.drop k (addC t D[k] D t.classes.toNat)).length = (addC t D[k] D t.classes.toNat).length - k := List.length_drop
    refine ⟨by omega, fun _ => ⟨by omega, fun _ => ⟨k + 1, _, M', ⟨hst, hk'⟩, by omega, rfl, ?_⟩⟩⟩
    rw [List.take_of_length_le (by rw [List.length_drop]; omega)]
  have h0 : (c : Int) < t.classes := by omega
  have l1 : c < (t.next[D[k].1]'hpm.1).length := by have := hC.r _ (List.getElem_mem hpm.1); omega
  have l2 : c < (t.next[D[k].2]'hpm.2).length := by have := hC.r _ (List.getElem_mem hpm.2); omega
  have b1 := hpm.1
  have b2 := hpm.2
  have hq : (((t.next[D[k].1]'hpm.1)[c], (t.next[D[k].2]'hpm.2)[c]) : Int × Int) = ip (nx t D[k].1 c, nx t D[k].2 c) := by
    unfold ip; rw [nx_eq b1 l1 hn, nx_eq b2 l2 hn]
  have hkeys : ∀ p : Nat × Nat, (∃ m ∈ M', m.1 = ip p) ↔ p ∈ addC t D[k] D c := by
    intro p
    have : (∃ m ∈ M', m.1 = ip p) ↔ ip p ∈ M'.map (·.1) := by simp only [List.mem_map]
    rw [this, hk', List.mem_map]
    constructor
    · rintro ⟨q, hq, e⟩
      have : q = p := by
        unfold ip at e; simp only [Prod.mk.injEq] at e; exact Prod.ext (by omega) (by omega)
      rw [← this]; exact hq
    · intro h; exact ⟨p, h, rfl⟩
  cases hm : mget ((t.next[D[k].1]'hpm.1)[c], (t.next[D[k].2]'hpm.2)[c]) M' with
  | none =>
    simp -implicitDefEqProofs +contextual (maxSteps := 4000000) [-Int.not_le, -Int.not_lt, -Nat.not_le, -Nat.not_lt, -UInt32.toNat_or, -UInt32.toNat_xor, -UInt32.toNat_and, -UInt8.toNat_or, -UInt8.toNat_xor, -UInt8.toNat_and, -UInt32.toNat_add, -UInt8.toNat_add, -List.map_take, -List.map_drop, ← List.map_take, ← List.map_drop, -List.length_take, -List.length_drop, -List.map_replicate, rep_pY0, rep_pB0, rep_pI0, e_valid_alike.eq_1, Tryd.results86, -semMapSet.eq_1, h0, hm, b1, b2, l1, l2]
    have hnone := mget_none.1 hm
    have hnew : (nx t D[k].1 c, nx t D[k].2 c) ∉ addC t D[k] D c := fun h => by
      obtain ⟨m, hm1, hm2⟩ := (hkeys _).2 h
      exact hnone m hm1 (by rw [hm2, hq])
    have hsc : addC t D[k] D (c + 1) = addC t D[k] D c ++ [(nx t D[k].1 c, nx t D[k].2 c)] := by rw [addC_succ]; unfold addP; rw [if_neg hnew]
    have hl1 := addC_len (t := t) (p := D[k]) (D := D) (c := c)
    have hml : M'.length = (addC t D[k] D c).length := by have := congrArg List.length hk'; simpa using this
    have hlen25 : (addC t D[k] D c).length ≤ 25 := by
      have h1 := addC_nodup (t := t) (p := D[k]) hM.nodup (c := c)
      have h2 := pigeon2 (n := t.next.length) h1 (fun p hp => by
        rcases addC_mem.1 hp with hp | ⟨d, hd, rfl⟩
        · exact hM.lt p hp
        · exact ⟨hI _ _ hpm.1 (by omega), hI _ _ hpm.2 (by omega)⟩)
      omega
    have hdl : (List.drop k (addC t D[k] D c)).length = (addC t D[k] D c).length - k := List.length_drop
    refine ⟨by decide +kernel, by omega, fun _ => ⟨by unfold fits; omega, fun _ => ⟨c + 1, _, ⟨by omega, ?_⟩, by omega, rfl, ?_, by omega⟩⟩⟩
    · rw [mput_none hnone, hsc, List.map_append, List.map_append, hk', hq]; rfl
    · rw [hsc, List.drop_append_of_le_length (by omega), List.map_append]
      have := congrArg Prod.fst hq
      have h3 := congrArg Prod.snd hq
      simp only [ip] at this h3
      simp [this, h3]
  | some q =>
    simp -implicitDefEqProofs +contextual (maxSteps := 4000000) [-Int.not_le, -Int.not_lt, -Nat.not_le, -Nat.not_lt, -UInt32.toNat_or, -UInt32.toNat_xor, -UInt32.toNat_and, -UInt8.toNat_or, -UInt8.toNat_xor, -UInt8.toNat_and, -UInt32.toNat_add, -UInt8.toNat_add, -List.map_take, -List.map_drop, ← List.map_take, ← List.map_drop, -List.length_take, -List.length_drop, -List.map_replicate, rep_pY0, rep_pB0, rep_pI0, e_valid_alike.eq_1, Tryd.results86, -semMapSet.eq_1, h0, hm, b1, b2, l1, l2]
    have hin : (nx t D[k].1 c, nx t D[k].2 c) ∈ addC t D[k] D c := (hkeys _).1 (by
      have := mget_isSome.1 (show (mget _ M').isSome = true by rw [hm]; rfl)
      obtain ⟨p, h1, h2⟩ := this
      exact ⟨p, h1, by rw [h2, hq]⟩)
    have hsc : addC t D[k] D (c + 1) = addC t D[k] D c := by rw [addC_succ]; unfold addP; rw [if_pos hin]
    refine ⟨by decide +kernel, by unfold fits; omega, fun _ => ⟨c + 1, M', ⟨by omega, by rw [hsc]; exact hk'⟩, by omega, rfl, by rw [hsc], by omega⟩⟩

end Go.V
