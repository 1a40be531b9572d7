/- A part of the proof of SegmentWhole: contracts of functions, or what these lean on. No condition. -/
import Derived.Test.YtldoffdakikaeaaDoorB2
import Derived.Test.YtldoffdakikaeaaDoorA18
namespace Go.V
open Go.Proofs
set_option maxRecDepth 8000
set_option linter.unusedSimpArgs false
set_option linter.unusedVariables false
abbrev pPc (p : Int × Int × Int) : PV := .agg [pI p.1, pI p.2.1, pI p.2.2]
abbrev sPc (l : List (Int × Int × Int)) : PV := .sl false 3 (l.map pPc)
abbrev tPc (l : List (Int × Int × Int)) : PV := .sl true 3 (l.map pPc)
theorem pPc_inj (a b : Int × Int × Int) (h : pPc a = pPc b) : a = b := by
  obtain ⟨a1, a2, a3⟩ := a; obtain ⟨b1, b2, b3⟩ := b; simpa using h
theorem map_pPc_inj {l m : List (Int × Int × Int)} : (l.map pPc = m.map pPc) = (l = m) := map_inj pPc_inj
theorem app_pPc1 {l : List (Int × Int × Int)} {a b c : Int} : l.map pPc ++ [PV.agg [pI a, pI b, pI c]] = (l ++ [(a, b, c)]).map pPc := by simp
def e_utf_Valid : (List UInt8) → List PV := fun s => [pS s]
noncomputable def g_utf_Valid : List PV → Option (PV × List PV) := spec e_utf_Valid (fun s => s.length < 2 ^ 62) fun s => (pB (validU s), [])
theorem e_utf_Valid_inj (a b : (List UInt8)) (h : e_utf_Valid a = e_utf_Valid b) : a = b := by
  simp [e_utf_Valid, map_pI_inj, map_pB_inj, map_pY_inj, map_pBand_inj, map_sI_inj, str_inj, Int.natCast_inj, UInt8.toNat_inj, UInt32.toNat_inj] at h; first | exact h | (simp [h]; done) | exact UInt32.toNat_inj.1 (by omega) | exact UInt8.toNat_inj.1 (by omega) | (simp only [Prod.mk.injEq, ← UInt8.toNat_inj, ← UInt32.toNat_inj] at *; omega) | grind
theorem Ok_utf_Valid {s : List UInt8} {K : PV × List PV → Prop} : Ok (g_utf_Valid [pS s]) K = ((s.length < 2 ^ 62) ∧ K (pB (validU s), [])) := Ok_spec e_utf_Valid_inj s
set_option maxHeartbeats 1000000 in
theorem impl_utf_Valid {tbl : Tbl} {G : Nat → Option (List PV)} (hT : Tb tbl G) (h_utf_begun : tbl 42 = g_utf_begun) : Impl Tryd.prog G 20 (g_utf_Valid) := by
  refine impl_p (E := En tbl G 22 k_utf_Valid []) (c := _) hT mixed Tryd.func20 rfl rfl (fun a => by simp [e_utf_Valid, pinned.eq_1, pinned.eq_2, PV.isMut.eq_1, PV.isMut.eq_2]) ?_
  rintro s hok
  refine ⟨by simp [e_utf_Valid], ?_⟩
  replace hok : s.length < 2 ^ 62 := hok
  simp -implicitDefEqProofs +contextual (maxSteps := 4000000) [-Int.not_le, -Int.not_lt, -Nat.not_le, -Nat.not_lt, -UInt32.toNat_or, -UInt32.toNat_xor, -UInt32.toNat_and, -UInt8.toNat_or, -UInt8.toNat_xor, -UInt8.toNat_and, -UInt32.toNat_add, -UInt8.toNat_add, -List.map_take, -List.map_drop, ← List.map_take, ← List.map_drop, -List.length_take, -List.length_drop, -List.map_replicate, rep_pY0, rep_pB0, rep_pI0, e_utf_Valid.eq_1, Tryd.results20, h_utf_begun, Ok_utf_begun]
  refine loopu (fun k => k ≤ s.length ∧ validU (s.drop k) = validU s) (fun k => [(3, pI k)]) (fun k => s.length - k) ?_ (s := 0) rfl ⟨by omega, by simp⟩
  rintro k ⟨h1, h2⟩
  have hb := @begU_le (s.drop k)
  rw [List.length_drop] at hb
  by_cases a : k = s.length
  · have : s.drop k = [] := List.drop_eq_nil_of_le (by omega)
    rw [this, validU_nil] at h2
    have a' : (k : Int) = s.length := by omega
    simp -implicitDefEqProofs +contextual (maxSteps := 4000000) [-Int.not_le, -Int.not_lt, -Nat.not_le, -Nat.not_lt, -UInt32.toNat_or, -UInt32.toNat_xor, -UInt32.toNat_and, -UInt8.toNat_or, -UInt8.toNat_xor, -UInt8.toNat_and, -UInt32.toNat_add, -UInt8.toNat_add, -List.map_take, -List.map_drop, ← List.map_take, ← List.map_drop, -List.length_take, -List.length_drop, -List.map_replicate, rep_pY0, rep_pB0, rep_pI0, e_utf_Valid.eq_1, Tryd.results20, h_utf_begun, Ok_utf_begun, a', ← h2]
  have a' : (k : Int) < s.length := by omega
  have hne : s.drop k ≠ [] := by rw [Ne, List.drop_eq_nil_iff]; omega
  rw [validU_cons hne] at h2
  cases w : (begU (s.drop k)).2 with
  | false =>
    rw [w] at h2
    simp -implicitDefEqProofs +contextual (maxSteps := 4000000) [-Int.not_le, -Int.not_lt, -Nat.not_le, -Nat.not_lt, -UInt32.toNat_or, -UInt32.toNat_xor, -UInt32.toNat_and, -UInt8.toNat_or, -UInt8.toNat_xor, -UInt8.toNat_and, -UInt32.toNat_add, -UInt8.toNat_add, -List.map_take, -List.map_drop, ← List.map_take, ← List.map_drop, -List.length_take, -List.length_drop, -List.map_replicate, rep_pY0, rep_pB0, rep_pI0, e_utf_Valid.eq_1, Tryd.results20, h_utf_begun, Ok_utf_begun, a', w, ← h2]
    exact ⟨by omega, fun _ => ⟨by rw [List.length_drop]; omega, by rw [List.length_drop]; omega⟩⟩
  | true =>
    have hp := begU_pos w
    rw [w, Bool.true_and, Nat.max_eq_left (by omega), List.drop_drop] at h2
    simp -implicitDefEqProofs +contextual (maxSteps := 4000000) [-Int.not_le, -Int.not_lt, -Nat.not_le, -Nat.not_lt, -UInt32.toNat_or, -UInt32.toNat_xor, -UInt32.toNat_and, -UInt8.toNat_or, -UInt8.toNat_xor, -UInt8.toNat_and, -UInt32.toNat_add, -UInt8.toNat_add, -List.map_take, -List.map_drop, ← List.map_take, ← List.map_drop, -List.length_take, -List.length_drop, -List.map_replicate, rep_pY0, rep_pB0, rep_pI0, e_utf_Valid.eq_1, Tryd.results20, h_utf_begun, Ok_utf_begun, a', w]
    exact ⟨by omega, fun _ => ⟨⟨by rw [List.length_drop]; omega, by rw [List.length_drop]; omega⟩, by unfold fits; omega, fun _ => ⟨k + (begU (s.drop k)).1, ⟨by omega, h2⟩, by omega, by omega⟩⟩⟩
def e_utf_Pieces : (List UInt8) → List PV := fun s => [pS s]
noncomputable def g_utf_Pieces : List PV → Option (PV × List PV) := spec e_utf_Pieces (fun s => s.length < 2 ^ 40) fun s => (tPc (stand 0 (pcs s)), [])
theorem e_utf_Pieces_inj (a b : (List UInt8)) (h : e_utf_Pieces a = e_utf_Pieces b) : a = b := by
  simp [e_utf_Pieces, map_pI_inj, map_pB_inj, map_pY_inj, map_pBand_inj, map_sI_inj, str_inj, Int.natCast_inj, UInt8.toNat_inj, UInt32.toNat_inj] at h; first | exact h | (simp [h]; done) | exact UInt32.toNat_inj.1 (by omega) | exact UInt8.toNat_inj.1 (by omega) | (simp only [Prod.mk.injEq, ← UInt8.toNat_inj, ← UInt32.toNat_inj] at *; omega) | grind
theorem Ok_utf_Pieces {s : List UInt8} {K : PV × List PV → Prop} : Ok (g_utf_Pieces [pS s]) K = ((s.length < 2 ^ 40) ∧ K (tPc (stand 0 (pcs s)), [])) := Ok_spec e_utf_Pieces_inj s
set_option maxHeartbeats 1000000 in
theorem impl_utf_Pieces {tbl : Tbl} {G : Nat → Option (List PV)} (hT : Tb tbl G) (h_utf_begun : tbl 42 = g_utf_begun) (h_utf_value : tbl 43 = g_utf_value) : Impl Tryd.prog G 18 (g_utf_Pieces) := by
  refine impl_p (E := En tbl G 41 k_utf_Pieces []) (c := _) hT mixed Tryd.func18 rfl rfl (fun a => by simp [e_utf_Pieces, pinned.eq_1, pinned.eq_2, PV.isMut.eq_1, PV.isMut.eq_2]) ?_
  rintro s hok
  refine ⟨by simp [e_utf_Pieces], ?_⟩
  replace hok : s.length < 2 ^ 40 := hok
  simp -implicitDefEqProofs +contextual (maxSteps := 4000000) [-Int.not_le, -Int.not_lt, -Nat.not_le, -Nat.not_lt, -UInt32.toNat_or, -UInt32.toNat_xor, -UInt32.toNat_and, -UInt8.toNat_or, -UInt8.toNat_xor, -UInt8.toNat_and, -UInt32.toNat_add, -UInt8.toNat_add, -List.map_take, -List.map_drop, ← List.map_take, ← List.map_drop, -List.length_take, -List.length_drop, -List.map_replicate, rep_pY0, rep_pB0, rep_pI0, e_utf_Pieces.eq_1, Tryd.results18, h_utf_begun, Ok_utf_begun, h_utf_value, Ok_utf_value]
  refine loopu (fun (x : Nat × List (Int × Int × Int)) => x.1 ≤ s.length ∧ x.2.length ≤ x.1 ∧ x.2 ++ stand x.1 (pcs (s.drop x.1)) = stand 0 (pcs s)) (fun x => [(3, tPc x.2), (4, pI x.1)]) (fun x => s.length - x.1) ?_ (s := (0, [])) rfl ⟨by omega, by simp, by simp⟩
  rintro ⟨k, l⟩ ⟨h1, h0, h2⟩
  simp only at h1 h0 h2
  have hb := @begU_le (s.drop k)
  rw [List.length_drop] at hb
  by_cases a : k = s.length
  · have : s.drop k = [] := List.drop_eq_nil_of_le (by omega)
    rw [this, pcs_nil, stand_nil, List.append_nil] at h2
    have a' : (k : Int) = s.length := by omega
    simp -implicitDefEqProofs +contextual (maxSteps := 4000000) [-Int.not_le, -Int.not_lt, -Nat.not_le, -Nat.not_lt, -UInt32.toNat_or, -UInt32.toNat_xor, -UInt32.toNat_and, -UInt8.toNat_or, -UInt8.toNat_xor, -UInt8.toNat_and, -UInt32.toNat_add, -UInt8.toNat_add, -List.map_take, -List.map_drop, ← List.map_take, ← List.map_drop, -List.length_take, -List.length_drop, -List.map_replicate, rep_pY0, rep_pB0, rep_pI0, e_utf_Pieces.eq_1, Tryd.results18, h_utf_begun, Ok_utf_begun, h_utf_value, Ok_utf_value, a', ← h2]
  have a' : (k : Int) < s.length := by omega
  have hne : s.drop k ≠ [] := by rw [Ne, List.drop_eq_nil_iff]; omega
  rw [pcs_cons hne, stand_cons, List.drop_drop] at h2
  have hbt : (l.length + 1) * 25 ≤ 70368744177664 := by omega
  have hmx : (if ((begU (s.drop k)).1 : Int) < 1 then (1 : Int) else ((begU (s.drop k)).1 : Int)) = ((max (begU (s.drop k)).1 1 : Nat) : Int) := by split <;> omega
  have hx := hmx
  generalize hm : max (begU (s.drop k)).1 1 = m at hmx h2
  have hm1 : 1 ≤ m ∧ k + m ≤ s.length := by omega
  cases w : (begU (s.drop k)).2 with
  | false =>
    rw [w] at h2
    simp -implicitDefEqProofs +contextual (maxSteps := 4000000) [-Int.not_le, -Int.not_lt, -Nat.not_le, -Nat.not_lt, -UInt32.toNat_or, -UInt32.toNat_xor, -UInt32.toNat_and, -UInt8.toNat_or, -UInt8.toNat_xor, -UInt8.toNat_and, -UInt32.toNat_add, -UInt8.toNat_add, -List.map_take, -List.map_drop, ← List.map_take, ← List.map_drop, -List.length_take, -List.length_drop, -List.map_replicate, rep_pY0, rep_pB0, rep_pI0, e_utf_Pieces.eq_1, Tryd.results18, h_utf_begun, Ok_utf_begun, h_utf_value, Ok_utf_value, a', w, hmx, hbt, -List.map_append, app_pPc1]
    exact ⟨by omega, fun _ => ⟨⟨by rw [List.length_drop]; omega, by rw [List.length_drop]; omega⟩, by unfold fits; omega, fun _ => ⟨k + m, l ++ [(65533, (k : Int), (m : Int))],
      ⟨by omega, by rw [List.length_append]; simp; omega, by rw [List.append_assoc]; exact h2⟩, by omega, rfl, by omega⟩⟩⟩
  | true =>
    rw [w] at h2
    have tn : ((k : Int) + ((begU (s.drop k)).1 : Int)).toNat - k = (begU (s.drop k)).1 := by omega
    have hp := begU_pos w
    have htl : (List.take (begU (s.drop k)).1 (s.drop k)).length = (begU (s.drop k)).1 := by rw [List.length_take, List.length_drop]; omega
    simp -implicitDefEqProofs +contextual (maxSteps := 4000000) [-Int.not_le, -Int.not_lt, -Nat.not_le, -Nat.not_lt, -UInt32.toNat_or, -UInt32.toNat_xor, -UInt32.toNat_and, -UInt8.toNat_or, -UInt8.toNat_xor, -UInt8.toNat_and, -UInt32.toNat_add, -UInt8.toNat_add, -List.map_take, -List.map_drop, ← List.map_take, ← List.map_drop, -List.length_take, -List.length_drop, -List.map_replicate, rep_pY0, rep_pB0, rep_pI0, e_utf_Pieces.eq_1, Tryd.results18, h_utf_begun, Ok_utf_begun, h_utf_value, Ok_utf_value, a', w, hmx, hbt, tn, htl, -List.map_append, app_pPc1]
    exact ⟨by omega, fun _ => ⟨⟨by rw [List.length_drop]; omega, by rw [List.length_drop]; omega⟩, by unfold fits; omega, fun _ => ⟨by omega, fun _ _ => ⟨by omega, by unfold fits; omega, fun _ =>
      ⟨k + m, l ++ [(valU (List.take (begU (s.drop k)).1 (s.drop k)), (k : Int), (m : Int))], ⟨by omega, by rw [List.length_append]; simp; omega, by rw [List.append_assoc]; exact h2⟩, by omega, rfl, by omega⟩⟩⟩⟩⟩
def e_utf_size : Int → List PV := fun v => [pI v]
noncomputable def g_utf_size : List PV → Option (PV × List PV) := spec e_utf_size (fun v => True) fun v => (pI (encU v).length, [])
theorem e_utf_size_inj (a b : Int) (h : e_utf_size a = e_utf_size b) : a = b := by
  simp [e_utf_size, map_pI_inj, map_pB_inj, map_pY_inj, map_pBand_inj, map_sI_inj, str_inj, Int.natCast_inj, UInt8.toNat_inj, UInt32.toNat_inj] at h; first | exact h | (simp [h]; done) | exact UInt32.toNat_inj.1 (by omega) | exact UInt8.toNat_inj.1 (by omega) | (simp only [Prod.mk.injEq, ← UInt8.toNat_inj, ← UInt32.toNat_inj] at *; omega) | grind
theorem Ok_utf_size {v : Int} {K : PV × List PV → Prop} : Ok (g_utf_size [pI v]) K = ((True) ∧ K (pI (encU v).length, [])) := Ok_spec e_utf_size_inj v
set_option maxHeartbeats 1000000 in
theorem impl_utf_size {tbl : Tbl} {G : Nat → Option (List PV)} (hT : Tb tbl G) : Impl Tryd.prog G 47 (g_utf_size) := by
  refine impl_p (E := En tbl G 12 k_utf_size []) (c := _) hT mixed Tryd.func47 rfl rfl (fun a => by simp [e_utf_size, pinned.eq_1, pinned.eq_2, PV.isMut.eq_1, PV.isMut.eq_2]) ?_
  rintro v hok
  refine ⟨by simp [e_utf_size], ?_⟩
  have h := @encU_len v
  by_cases a : v < 128
  · rw [if_pos a] at h; simp -implicitDefEqProofs +contextual (maxSteps := 4000000) [-Int.not_le, -Int.not_lt, -Nat.not_le, -Nat.not_lt, -UInt32.toNat_or, -UInt32.toNat_xor, -UInt32.toNat_and, -UInt8.toNat_or, -UInt8.toNat_xor, -UInt8.toNat_and, -UInt32.toNat_add, -UInt8.toNat_add, -List.map_take, -List.map_drop, ← List.map_take, ← List.map_drop, -List.length_take, -List.length_drop, -List.map_replicate, rep_pY0, rep_pB0, rep_pI0, e_utf_size.eq_1, Tryd.results47, a, h]
  rw [if_neg a] at h
  by_cases b : v < 2048
  · rw [if_pos b] at h; simp -implicitDefEqProofs +contextual (maxSteps := 4000000) [-Int.not_le, -Int.not_lt, -Nat.not_le, -Nat.not_lt, -UInt32.toNat_or, -UInt32.toNat_xor, -UInt32.toNat_and, -UInt8.toNat_or, -UInt8.toNat_xor, -UInt8.toNat_and, -UInt32.toNat_add, -UInt8.toNat_add, -List.map_take, -List.map_drop, ← List.map_take, ← List.map_drop, -List.length_take, -List.length_drop, -List.map_replicate, rep_pY0, rep_pB0, rep_pI0, e_utf_size.eq_1, Tryd.results47, a, b, h]
  rw [if_neg b] at h
  by_cases c : v < 65536
  · rw [if_pos c] at h; simp -implicitDefEqProofs +contextual (maxSteps := 4000000) [-Int.not_le, -Int.not_lt, -Nat.not_le, -Nat.not_lt, -UInt32.toNat_or, -UInt32.toNat_xor, -UInt32.toNat_and, -UInt8.toNat_or, -UInt8.toNat_xor, -UInt8.toNat_and, -UInt32.toNat_add, -UInt8.toNat_add, -List.map_take, -List.map_drop, ← List.map_take, ← List.map_drop, -List.length_take, -List.length_drop, -List.map_replicate, rep_pY0, rep_pB0, rep_pI0, e_utf_size.eq_1, Tryd.results47, a, b, c, h]
  rw [if_neg c] at h
  simp -implicitDefEqProofs +contextual (maxSteps := 4000000) [-Int.not_le, -Int.not_lt, -Nat.not_le, -Nat.not_lt, -UInt32.toNat_or, -UInt32.toNat_xor, -UInt32.toNat_and, -UInt8.toNat_or, -UInt8.toNat_xor, -UInt8.toNat_and, -UInt32.toNat_add, -UInt8.toNat_add, -List.map_take, -List.map_drop, ← List.map_take, ← List.map_drop, -List.length_take, -List.length_drop, -List.map_replicate, rep_pY0, rep_pB0, rep_pI0, e_utf_size.eq_1, Tryd.results47, a, b, c, h]

end Go.V
