/- A part of the proof of SegmentWhole: contracts of functions, or what these lean on. No condition. -/
import Derived.Test.YtldoffdakikaeaaDoorB3
namespace Go.V
open Go.Proofs
set_option maxRecDepth 8000
set_option linter.unusedSimpArgs false
set_option linter.unusedVariables false
theorem setAt_0 {xs : List PV} {y : PV} {n : Int} : setAt (PV.prim (.int .u8 n) :: xs) 0 0 y = y :: xs := rfl
theorem setAt_s {x : PV} {xs : List PV} {i o : Nat} {y : PV} : setAt (x :: xs) (i + 1) o y = x :: setAt xs i o y := by simp [setAt]
theorem or_top {a b x : Int} {k m : Nat} (ha : a % 256 = m * 2 ^ k) (hm : m * 2 ^ k + 2 ^ k ≤ 256) (hx : 0 ≤ x ∧ x < 2 ^ k) (hb : b = m * 2 ^ k + x) : by8 a ||| by8 x = by8 b := by
  apply UInt8.toNat_inj.1
  rw [UInt8.toNat_or]
  have h1 := @by8_toNat a
  have h2 := @by8_toNat x
  have h3 := @by8_toNat b
  have hk : (2 : Int) ^ k = ((2 ^ k : Nat) : Int) := by push_cast; rfl
  rw [hk] at ha hx hb
  have e1 : (by8 a).toNat = 2 ^ k * m := by
    rw [Nat.mul_comm]; rw [ha] at h1; exact_mod_cast h1
  have e2 : (by8 x).toNat = x.toNat := by rw [Int.emod_eq_of_lt hx.1 (by omega)] at h2; omega
  rw [e1, e2, ← Nat.two_pow_add_eq_or_of_lt (by omega)]
  have e3 : ((2 ^ k * m : Nat) : Int) = (m : Int) * ((2 ^ k : Nat) : Int) := by push_cast; rw [Int.mul_comm]
  have e4 : b % 256 = b := by
    rw [Nat.mul_comm] at hm
    refine Int.emod_eq_of_lt ?_ ?_ <;> (rw [hb, ← e3]; omega)
  rw [e4] at h3
  have e5 : b = ((2 ^ k * m : Nat) : Int) + x := by rw [hb, e3]
  clear e3 e1 hb ha hm h1 e4
  generalize 2 ^ k * m = q at e5 ⊢
  omega
theorem low_or {u : Int} (hu : 0 ≤ u) : by8 ((@HOr.hOr (BitVec 8) (BitVec 8) (BitVec 8) (@instHOrOfOrOp (BitVec IntKind.u8.bits) (@BitVec.instOrOp IntKind.u8.bits)) (128#8) (by8 ((u.toNat &&& 63 : Nat) : Int)).toBitVec).toNat : Int) = by8 (128 + u % 64) := by
  show by8 ((128#8 ||| (by8 ((u.toNat &&& 63 : Nat) : Int)).toBitVec).toNat : Int) = by8 (128 + u % 64)
  have h0 : u.toNat &&& 63 = u.toNat % 64 := by rw [show (63 : Nat) = 2 ^ 6 - 1 from rfl, Nat.and_two_pow_sub_one_eq_mod]
  have h1 : (by8 ((u.toNat &&& 63 : Nat) : Int)).toBitVec.toNat = u.toNat % 64 := by
    rw [h0]
    have := @by8_toNat ((u.toNat % 64 : Nat) : Int)
    have h2 : (by8 ((u.toNat % 64 : Nat) : Int)).toBitVec.toNat = (by8 ((u.toNat % 64 : Nat) : Int)).toNat := rfl
    omega
  rw [BitVec.toNat_or, h1, show (128#8).toNat = 2 ^ 7 * 1 from rfl, ← Nat.two_pow_add_eq_or_of_lt (by omega)]
  congr 1; omega
theorem bytes_1 {a : UInt8} : bytesOf [pY a] = some [(a.toNat : Int)] := rfl
theorem bytes_2 {a b : UInt8} : bytesOf [pY a, pY b] = some [(a.toNat : Int), (b.toNat : Int)] := rfl
theorem bytes_3 {a b c : UInt8} : bytesOf [pY a, pY b, pY c] = some [(a.toNat : Int), (b.toNat : Int), (c.toNat : Int)] := rfl
theorem bytes_4 {a b c d : UInt8} : bytesOf [pY a, pY b, pY c, pY d] = some [(a.toNat : Int), (b.toNat : Int), (c.toNat : Int), (d.toNat : Int)] := rfl
theorem str_1 {a : UInt8} : strOf [(a.toNat : Int)] = str [a] := strOf_pY (l := [a])
theorem str_2 {a b : UInt8} : strOf [(a.toNat : Int), (b.toNat : Int)] = str [a, b] := strOf_pY (l := [a, b])
theorem str_3 {a b c : UInt8} : strOf [(a.toNat : Int), (b.toNat : Int), (c.toNat : Int)] = str [a, b, c] := strOf_pY (l := [a, b, c])
theorem str_4 {a b c d : UInt8} : strOf [(a.toNat : Int), (b.toNat : Int), (c.toNat : Int), (d.toNat : Int)] = str [a, b, c, d] := strOf_pY (l := [a, b, c, d])
def e_keep_Pieces : (List (Int × Int × Int)) × (List (Int × Int × Int)) → List PV := fun (a, b) => [sPc a, sPc b]
noncomputable def g_keep_Pieces : List PV → Option (PV × List PV) := spec e_keep_Pieces (fun (a, b) => a.length < 2 ^ 60 ∧ b.length < 2 ^ 60) fun (a, b) => (pB (decide (a = b)), [])
theorem e_keep_Pieces_inj (a b : (List (Int × Int × Int)) × (List (Int × Int × Int))) (h : e_keep_Pieces a = e_keep_Pieces b) : a = b := by
  obtain ⟨a1, b1⟩ := a; obtain ⟨a2, b2⟩ := b; simp [e_keep_Pieces, map_pI_inj, map_pB_inj, map_pY_inj, map_pBand_inj, map_sI_inj, str_inj, Int.natCast_inj, UInt8.toNat_inj, UInt32.toNat_inj, map_pPc_inj] at h; first | exact h | (simp [h]; done) | exact UInt32.toNat_inj.1 (by omega) | exact UInt8.toNat_inj.1 (by omega) | (simp only [Prod.mk.injEq, ← UInt8.toNat_inj, ← UInt32.toNat_inj] at *; omega) | grind
theorem Ok_keep_Pieces {a : List (Int × Int × Int)} {b : List (Int × Int × Int)} {K : PV × List PV → Prop} : Ok (g_keep_Pieces [sPc a, sPc b]) K = ((a.length < 2 ^ 60 ∧ b.length < 2 ^ 60) ∧ K (pB (decide (a = b)), [])) := Ok_spec e_keep_Pieces_inj (a, b)
set_option maxHeartbeats 1000000 in
theorem impl_keep_Pieces {tbl : Tbl} {G : Nat → Option (List PV)} (hT : Tb tbl G) : Impl Tryd.prog G 22 (g_keep_Pieces) := by
  refine impl_p (E := En tbl G 26 k_keep_Pieces []) (c := _) hT mixed Tryd.func22 rfl rfl (fun a => by simp [e_keep_Pieces, pinned.eq_1, pinned.eq_2, PV.isMut.eq_1, PV.isMut.eq_2]) ?_
  rintro ⟨a, b⟩ hok
  refine ⟨by simp [e_keep_Pieces], ?_⟩
  replace hok : a.length < 2 ^ 60 ∧ b.length < 2 ^ 60 := hok
  simp -implicitDefEqProofs +contextual (maxSteps := 4000000) [-Int.not_le, -Int.not_lt, -Nat.not_le, -Nat.not_lt, -UInt32.toNat_or, -UInt32.toNat_xor, -UInt32.toNat_and, -UInt8.toNat_or, -UInt8.toNat_xor, -UInt8.toNat_and, -UInt32.toNat_add, -UInt8.toNat_add, -List.map_take, -List.map_drop, ← List.map_take, ← List.map_drop, -List.length_take, -List.length_drop, -List.map_replicate, rep_pY0, rep_pB0, rep_pI0, e_keep_Pieces.eq_1, Tryd.results22, Prod.ext_iff]
  refine ⟨fun h e => h (by rw [e]), fun hab => ?_⟩
  refine loopo (fun i => i ≤ a.length ∧ (a = b ↔ a.drop i = b.drop i))
    (fun i => [(0, .val (sPc a), 0, 0), (1, .val (sPc b), 0, 0), (5, .val (pI i), 0, 0)])
    (fun i => a.length - i) ?_ (s := 0) rfl (by simp)
  rintro i ⟨hi, hp⟩
  simp -implicitDefEqProofs +contextual (maxSteps := 4000000) [-Int.not_le, -Int.not_lt, -Nat.not_le, -Nat.not_lt, -UInt32.toNat_or, -UInt32.toNat_xor, -UInt32.toNat_and, -UInt8.toNat_or, -UInt8.toNat_xor, -UInt8.toNat_and, -UInt32.toNat_add, -UInt8.toNat_add, -List.map_take, -List.map_drop, ← List.map_take, ← List.map_drop, -List.length_take, -List.length_drop, -List.map_replicate, rep_pY0, rep_pB0, rep_pI0, e_keep_Pieces.eq_1, Tryd.results22, Prod.ext_iff]
  (repeat' (first | exact (show drawD _ _ = true by decide +kernel) | exact (show _ = List.range' _ _ from rfl) | with_reducible refine and_imp_self' ?_ ?_ | with_reducible refine And.intro ?_ ?_ | with_reducible refine @Exists.intro Nat _ (i + 1) ?_ | with_reducible refine Exists.intro (show (_ : Nat) < _ by omega) ?_ | intro _)) <;> (try (first | omega | (unfold fits; omega) | assumption | with_reducible rfl | (simp only [inR_iff, inR_not, fits_iff] at *; omega)))
  all_goals first
    | (have := drop_eq_step (a := a) (b := b) (i := i) (by omega) (by omega); simp_all [Prod.ext_iff, UInt8.toNat_inj]; done)
    | (have h1 := List.drop_of_length_le (l := a) (i := i) (by omega); have h2 := List.drop_of_length_le (l := b) (i := i) (by omega); simp_all; done)
def e_utf_Bytes : Int → List PV := fun v => [pI v]
noncomputable def g_utf_Bytes : List PV → Option (PV × List PV) := spec e_utf_Bytes (fun v => True) fun v => (.tup [pS (bytesU v), pB (isSc v)], [])
theorem e_utf_Bytes_inj (a b : Int) (h : e_utf_Bytes a = e_utf_Bytes b) : a = b := by
  simp [e_utf_Bytes, map_pI_inj, map_pB_inj, map_pY_inj, map_pBand_inj, map_sI_inj, str_inj, Int.natCast_inj, UInt8.toNat_inj, UInt32.toNat_inj] at h; first | exact h | (simp [h]; done) | exact UInt32.toNat_inj.1 (by omega) | exact UInt8.toNat_inj.1 (by omega) | (simp only [Prod.mk.injEq, ← UInt8.toNat_inj, ← UInt32.toNat_inj] at *; omega) | grind
theorem Ok_utf_Bytes {v : Int} {K : PV × List PV → Prop} : Ok (g_utf_Bytes [pI v]) K = ((True) ∧ K (.tup [pS (bytesU v), pB (isSc v)], [])) := Ok_spec e_utf_Bytes_inj v
set_option maxHeartbeats 1000000 in
theorem impl_utf_Bytes {tbl : Tbl} {G : Nat → Option (List PV)} (hT : Tb tbl G) (h_scalar_Is : tbl 46 = g_scalar_Is) (h_utf_size : tbl 47 = g_utf_size) : Impl Tryd.prog G 21 (g_utf_Bytes) := by
  refine impl_p (E := En tbl G 45 k_utf_Bytes []) (c := _) hT mixed Tryd.func21 rfl rfl (fun a => by simp [e_utf_Bytes, pinned.eq_1, pinned.eq_2, PV.isMut.eq_1, PV.isMut.eq_2]) ?_
  rintro v hok
  refine ⟨by simp [e_utf_Bytes], ?_⟩
  by_cases hs : isSc v = true
  case neg =>
    have hs' : isSc v = false := by simpa using hs
    simp -implicitDefEqProofs +contextual (maxSteps := 4000000) [-Int.not_le, -Int.not_lt, -Nat.not_le, -Nat.not_lt, -UInt32.toNat_or, -UInt32.toNat_xor, -UInt32.toNat_and, -UInt8.toNat_or, -UInt8.toNat_xor, -UInt8.toNat_and, -UInt32.toNat_add, -UInt8.toNat_add, -List.map_take, -List.map_drop, ← List.map_take, ← List.map_drop, -List.length_take, -List.length_drop, -List.map_replicate, rep_pY0, rep_pB0, rep_pI0, e_utf_Bytes.eq_1, Tryd.results21, h_scalar_Is, Ok_scalar_Is, h_utf_size, Ok_utf_size, hs', bytesU_no hs']
  have hv := isSc_iff.1 hs
  have hl := @encU_len v
  have hb := bytesU_sc hs
  unfold encU at hb
  by_cases a : v < 128
  · rw [if_pos a] at hl hb
    simp -implicitDefEqProofs +contextual (maxSteps := 4000000) [-Int.not_le, -Int.not_lt, -Nat.not_le, -Nat.not_lt, -UInt32.toNat_or, -UInt32.toNat_xor, -UInt32.toNat_and, -UInt8.toNat_or, -UInt8.toNat_xor, -UInt8.toNat_and, -UInt32.toNat_add, -UInt8.toNat_add, -List.map_take, -List.map_drop, ← List.map_take, ← List.map_drop, -List.length_take, -List.length_drop, -List.map_replicate, rep_pY0, rep_pB0, rep_pI0, e_utf_Bytes.eq_1, Tryd.results21, h_scalar_Is, Ok_scalar_Is, h_utf_size, Ok_utf_size, hs, hl, hb, bytes_1, str_1]
  rw [if_neg a] at hl hb
  by_cases b : v < 2048
  · rw [if_pos b] at hl hb
    simp -implicitDefEqProofs +contextual (maxSteps := 4000000) [-Int.not_le, -Int.not_lt, -Nat.not_le, -Nat.not_lt, -UInt32.toNat_or, -UInt32.toNat_xor, -UInt32.toNat_and, -UInt8.toNat_or, -UInt8.toNat_xor, -UInt8.toNat_and, -UInt32.toNat_add, -UInt8.toNat_add, -List.map_take, -List.map_drop, ← List.map_take, ← List.map_drop, -List.length_take, -List.length_drop, -List.map_replicate, rep_pY0, rep_pB0, rep_pI0, e_utf_Bytes.eq_1, Tryd.results21, h_scalar_Is, Ok_scalar_Is, h_utf_size, Ok_utf_size, hs, hl, hb, bytes_2, str_2, setAt_0, setAt_s]
    refine ⟨by decide, fun _ => ?_⟩
    refine loopu (fun (x : Nat × Int × List UInt8) => (x.1 = 1 ∧ v = x.2.1 ∧ [0, 0] = x.2.2) ∨ (x.1 = 0 ∧ v / 64 = x.2.1 ∧ [0, by8 (128 + v % 64)] = x.2.2))
      (fun x => [(0, pI x.2.1), (5, tY x.2.2), (6, pI x.1)]) (fun x => x.1) ?_ (s := (1, v, [0, 0])) rfl (.inl ⟨rfl, rfl, rfl⟩)
    rintro ⟨i, u, l⟩ (⟨rfl, rfl, rfl⟩ | ⟨rfl, rfl, rfl⟩)
    · have hq : 0 ≤ v := by omega
      have hlo := low_or hq
      simp -implicitDefEqProofs +contextual (maxSteps := 4000000) [-Int.not_le, -Int.not_lt, -Nat.not_le, -Nat.not_lt, -UInt32.toNat_or, -UInt32.toNat_xor, -UInt32.toNat_and, -UInt8.toNat_or, -UInt8.toNat_xor, -UInt8.toNat_and, -UInt32.toNat_add, -UInt8.toNat_add, -List.map_take, -List.map_drop, ← List.map_take, ← List.map_drop, -List.length_take, -List.length_drop, -List.map_replicate, rep_pY0, rep_pB0, rep_pI0, e_utf_Bytes.eq_1, Tryd.results21, h_scalar_Is, Ok_scalar_Is, h_utf_size, Ok_utf_size, hs, hl, hb, hlo, bytes_2, str_2, setAt_0, setAt_s]
      exact ⟨⟨⟨by omega, by unfold fits; omega⟩, by unfold fits; omega⟩, fun _ _ _ => ⟨by unfold fits; omega, fun _ => ⟨0, v / 64, [0, by8 (128 + v % 64)], .inr (⟨rfl, rfl, rfl⟩), by omega, rfl, rfl, rfl⟩⟩⟩
    · have hor : by8 16320 ||| by8 (v / 64) = by8 (192 + v / 64) := or_top (k := 6) (m := 3) (by decide) (by decide) (by omega) (by omega)
      simp -implicitDefEqProofs +contextual (maxSteps := 4000000) [-Int.not_le, -Int.not_lt, -Nat.not_le, -Nat.not_lt, -UInt32.toNat_or, -UInt32.toNat_xor, -UInt32.toNat_and, -UInt8.toNat_or, -UInt8.toNat_xor, -UInt8.toNat_and, -UInt32.toNat_add, -UInt8.toNat_add, -List.map_take, -List.map_drop, ← List.map_take, ← List.map_drop, -List.length_take, -List.length_drop, -List.map_replicate, rep_pY0, rep_pB0, rep_pI0, e_utf_Bytes.eq_1, Tryd.results21, h_scalar_Is, Ok_scalar_Is, h_utf_size, Ok_utf_size, hs, hl, hb, hor, bytes_2, str_2, setAt_0, setAt_s]
      unfold fits; omega
  rw [if_neg b] at hl hb
  by_cases c : v < 65536
  · rw [if_pos c] at hl hb
    simp -implicitDefEqProofs +contextual (maxSteps := 4000000) [-Int.not_le, -Int.not_lt, -Nat.not_le, -Nat.not_lt, -UInt32.toNat_or, -UInt32.toNat_xor, -UInt32.toNat_and, -UInt8.toNat_or, -UInt8.toNat_xor, -UInt8.toNat_and, -UInt32.toNat_add, -UInt8.toNat_add, -List.map_take, -List.map_drop, ← List.map_take, ← List.map_drop, -List.length_take, -List.length_drop, -List.map_replicate, rep_pY0, rep_pB0, rep_pI0, e_utf_Bytes.eq_1, Tryd.results21, h_scalar_Is, Ok_scalar_Is, h_utf_size, Ok_utf_size, hs, hl, hb, bytes_3, str_3, setAt_0, setAt_s]
    refine ⟨by decide, fun _ => ?_⟩
    refine loopu (fun (x : Nat × Int × List UInt8) => (x.1 = 2 ∧ v = x.2.1 ∧ [0, 0, 0] = x.2.2) ∨ (x.1 = 1 ∧ v / 64 = x.2.1 ∧ [0, 0, by8 (128 + v % 64)] = x.2.2) ∨ (x.1 = 0 ∧ v / 4096 = x.2.1 ∧ [0, by8 (128 + v / 64 % 64), by8 (128 + v % 64)] = x.2.2))
      (fun x => [(0, pI x.2.1), (5, tY x.2.2), (6, pI x.1)]) (fun x => x.1) ?_ (s := (2, v, [0, 0, 0])) rfl (.inl ⟨rfl, rfl, rfl⟩)
    rintro ⟨i, u, l⟩ (⟨rfl, rfl, rfl⟩ | ⟨rfl, rfl, rfl⟩ | ⟨rfl, rfl, rfl⟩)
    · have hq : 0 ≤ v := by omega
      have hlo := low_or hq
      simp -implicitDefEqProofs +contextual (maxSteps := 4000000) [-Int.not_le, -Int.not_lt, -Nat.not_le, -Nat.not_lt, -UInt32.toNat_or, -UInt32.toNat_xor, -UInt32.toNat_and, -UInt8.toNat_or, -UInt8.toNat_xor, -UInt8.toNat_and, -UInt32.toNat_add, -UInt8.toNat_add, -List.map_take, -List.map_drop, ← List.map_take, ← List.map_drop, -List.length_take, -List.length_drop, -List.map_replicate, rep_pY0, rep_pB0, rep_pI0, e_utf_Bytes.eq_1, Tryd.results21, h_scalar_Is, Ok_scalar_Is, h_utf_size, Ok_utf_size, hs, hl, hb, hlo, bytes_3, str_3, setAt_0, setAt_s]
      exact ⟨⟨⟨by omega, by unfold fits; omega⟩, by unfold fits; omega⟩, fun _ _ _ => ⟨by unfold fits; omega, fun _ => ⟨1, v / 64, [0, 0, by8 (128 + v % 64)], .inr (.inl ⟨rfl, rfl, rfl⟩), by omega, rfl, rfl, rfl⟩⟩⟩
    · have hq : 0 ≤ v / 64 := by omega
      have hlo := low_or hq
      have hdd : v / 64 / 64 = v / 4096 := by omega
      simp -implicitDefEqProofs +contextual (maxSteps := 4000000) [-Int.not_le, -Int.not_lt, -Nat.not_le, -Nat.not_lt, -UInt32.toNat_or, -UInt32.toNat_xor, -UInt32.toNat_and, -UInt8.toNat_or, -UInt8.toNat_xor, -UInt8.toNat_and, -UInt32.toNat_add, -UInt8.toNat_add, -List.map_take, -List.map_drop, ← List.map_take, ← List.map_drop, -List.length_take, -List.length_drop, -List.map_replicate, rep_pY0, rep_pB0, rep_pI0, e_utf_Bytes.eq_1, Tryd.results21, h_scalar_Is, Ok_scalar_Is, h_utf_size, Ok_utf_size, hs, hl, hb, hlo, bytes_3, str_3, setAt_0, setAt_s, hdd]
      exact ⟨⟨⟨by omega, by unfold fits; omega⟩, by unfold fits; omega⟩, fun _ _ _ => ⟨by unfold fits; omega, fun _ => ⟨0, v / 4096, [0, by8 (128 + v / 64 % 64), by8 (128 + v % 64)], .inr (.inr (⟨rfl, rfl, rfl⟩)), by omega, rfl, rfl, rfl⟩⟩⟩
    · have hor : by8 8160 ||| by8 (v / 4096) = by8 (224 + v / 4096) := or_top (k := 5) (m := 7) (by decide) (by decide) (by omega) (by omega)
      simp -implicitDefEqProofs +contextual (maxSteps := 4000000) [-Int.not_le, -Int.not_lt, -Nat.not_le, -Nat.not_lt, -UInt32.toNat_or, -UInt32.toNat_xor, -UInt32.toNat_and, -UInt8.toNat_or, -UInt8.toNat_xor, -UInt8.toNat_and, -UInt32.toNat_add, -UInt8.toNat_add, -List.map_take, -List.map_drop, ← List.map_take, ← List.map_drop, -List.length_take, -List.length_drop, -List.map_replicate, rep_pY0, rep_pB0, rep_pI0, e_utf_Bytes.eq_1, Tryd.results21, h_scalar_Is, Ok_scalar_Is, h_utf_size, Ok_utf_size, hs, hl, hb, hor, bytes_3, str_3, setAt_0, setAt_s]
      unfold fits; omega
  rw [if_neg c] at hl hb
  simp -implicitDefEqProofs +contextual (maxSteps := 4000000) [-Int.not_le, -Int.not_lt, -Nat.not_le, -Nat.not_lt, -UInt32.toNat_or, -UInt32.toNat_xor, -UInt32.toNat_and, -UInt8.toNat_or, -UInt8.toNat_xor, -UInt8.toNat_and, -UInt32.toNat_add, -UInt8.toNat_add, -List.map_take, -List.map_drop, ← List.map_take, ← List.map_drop, -List.length_take, -List.length_drop, -List.map_replicate, rep_pY0, rep_pB0, rep_pI0, e_utf_Bytes.eq_1, Tryd.results21, h_scalar_Is, Ok_scalar_Is, h_utf_size, Ok_utf_size, hs, hl, hb, bytes_4, str_4, setAt_0, setAt_s]
  refine ⟨by decide, fun _ => ?_⟩
  refine loopu (fun (x : Nat × Int × List UInt8) => (x.1 = 3 ∧ v = x.2.1 ∧ [0, 0, 0, 0] = x.2.2) ∨ (x.1 = 2 ∧ v / 64 = x.2.1 ∧ [0, 0, 0, by8 (128 + v % 64)] = x.2.2) ∨ (x.1 = 1 ∧ v / 4096 = x.2.1 ∧ [0, 0, by8 (128 + v / 64 % 64), by8 (128 + v % 64)] = x.2.2) ∨ (x.1 = 0 ∧ v / 262144 = x.2.1 ∧ [0, by8 (128 + v / 4096 % 64), by8 (128 + v / 64 % 64), by8 (128 + v % 64)] = x.2.2))
    (fun x => [(0, pI x.2.1), (5, tY x.2.2), (6, pI x.1)]) (fun x => x.1) ?_ (s := (3, v, [0, 0, 0, 0])) rfl (.inl ⟨rfl, rfl, rfl⟩)
  rintro ⟨i, u, l⟩ (⟨rfl, rfl, rfl⟩ | ⟨rfl, rfl, rfl⟩ | ⟨rfl, rfl, rfl⟩ | ⟨rfl, rfl, rfl⟩)
  · have hq : 0 ≤ v := by omega
    have hlo := low_or hq
    simp -implicitDefEqProofs +contextual (maxSteps := 4000000) [-Int.not_le, -Int.not_lt, -Nat.not_le, -Nat.not_lt, -UInt32.toNat_or, -UInt32.toNat_xor, -UInt32.toNat_and, -UInt8.toNat_or, -UInt8.toNat_xor, -UInt8.toNat_and, -UInt32.toNat_add, -UInt8.toNat_add, -List.map_take, -List.map_drop, ← List.map_take, ← List.map_drop, -List.length_take, -List.length_drop, -List.map_replicate, rep_pY0, rep_pB0, rep_pI0, e_utf_Bytes.eq_1, Tryd.results21, h_scalar_Is, Ok_scalar_Is, h_utf_size, Ok_utf_size, hs, hl, hb, hlo, bytes_4, str_4, setAt_0, setAt_s]
    exact ⟨⟨⟨by omega, by unfold fits; omega⟩, by unfold fits; omega⟩, fun _ _ _ => ⟨by unfold fits; omega, fun _ => ⟨2, v / 64, [0, 0, 0, by8 (128 + v % 64)], .inr (.inl ⟨rfl, rfl, rfl⟩), by omega, rfl, rfl, rfl⟩⟩⟩
  · have hq : 0 ≤ v / 64 := by omega
    have hlo := low_or hq
    have hdd : v / 64 / 64 = v / 4096 := by omega
    simp -implicitDefEqProofs +contextual (maxSteps := 4000000) [-Int.not_le, -Int.not_lt, -Nat.not_le, -Nat.not_lt, -UInt32.toNat_or, -UInt32.toNat_xor, -UInt32.toNat_and, -UInt8.toNat_or, -UInt8.toNat_xor, -UInt8.toNat_and, -UInt32.toNat_add, -UInt8.toNat_add, -List.map_take, -List.map_drop, ← List.map_take, ← List.map_drop, -List.length_take, -List.length_drop, -List.map_replicate, rep_pY0, rep_pB0, rep_pI0, e_utf_Bytes.eq_1, Tryd.results21, h_scalar_Is, Ok_scalar_Is, h_utf_size, Ok_utf_size, hs, hl, hb, hlo, bytes_4, str_4, setAt_0, setAt_s, hdd]
    exact ⟨⟨⟨by omega, by unfold fits; omega⟩, by unfold fits; omega⟩, fun _ _ _ => ⟨by unfold fits; omega, fun _ => ⟨1, v / 4096, [0, 0, by8 (128 + v / 64 % 64), by8 (128 + v % 64)], .inr (.inr (.inl ⟨rfl, rfl, rfl⟩)), by omega, rfl, rfl, rfl⟩⟩⟩
  · have hq : 0 ≤ v / 4096 := by omega
    have hlo := low_or hq
    have hdd : v / 4096 / 64 = v / 262144 := by omega
    simp -implicitDefEqProofs +contextual (maxSteps := 4000000) [-Int.not_le, -Int.not_lt, -Nat.not_le, -Nat.not_lt, -UInt32.toNat_or, -UInt32.toNat_xor, -UInt32.toNat_and, -UInt8.toNat_or, -UInt8.toNat_xor, -UInt8.toNat_and, -UInt32.toNat_add, -UInt8.toNat_add, -List.map_take, -List.map_drop, ← List.map_take, ← List.map_drop, -List.length_take, -List.length_drop, -List.map_replicate, rep_pY0, rep_pB0, rep_pI0, e_utf_Bytes.eq_1, Tryd.results21, h_scalar_Is, Ok_scalar_Is, h_utf_size, Ok_utf_size, hs, hl, hb, hlo, bytes_4, str_4, setAt_0, setAt_s, hdd]
    exact ⟨⟨⟨by omega, by unfold fits; omega⟩, by unfold fits; omega⟩, fun _ _ _ => ⟨by unfold fits; omega, fun _ => ⟨0, v / 262144, [0, by8 (128 + v / 4096 % 64), by8 (128 + v / 64 % 64), by8 (128 + v % 64)], .inr (.inr (.inr (⟨rfl, rfl, rfl⟩))), by omega, rfl, rfl, rfl⟩⟩⟩
  · have hor : by8 4080 ||| by8 (v / 262144) = by8 (240 + v / 262144) := or_top (k := 4) (m := 15) (by decide) (by decide) (by omega) (by omega)
    simp -implicitDefEqProofs +contextual (maxSteps := 4000000) [-Int.not_le, -Int.not_lt, -Nat.not_le, -Nat.not_lt, -UInt32.toNat_or, -UInt32.toNat_xor, -UInt32.toNat_and, -UInt8.toNat_or, -UInt8.toNat_xor, -UInt8.toNat_and, -UInt32.toNat_add, -UInt8.toNat_add, -List.map_take, -List.map_drop, ← List.map_take, ← List.map_drop, -List.length_take, -List.length_drop, -List.map_replicate, rep_pY0, rep_pB0, rep_pI0, e_utf_Bytes.eq_1, Tryd.results21, h_scalar_Is, Ok_scalar_Is, h_utf_size, Ok_utf_size, hs, hl, hb, hor, bytes_4, str_4, setAt_0, setAt_s]
    unfold fits; omega

end Go.V
