/- What package pack's functions tell, as plain functions of lists. -/
import Derived.Test.YtpcbhghgommijaaXPure
import Derived.Test.YtpcbhghgommijaaXx3
import Derived.Test.YtpcbhghgommijaaXx5
import Derived.Test.YtpcbhghgommijaaXx3
import Derived.Test.YtpcbhghgommijaaXx3
import Derived.Test.YtpcbhghgommijaaXx5
namespace Go.Proofs.Ytpcbhghgommijaa.XPack
open Go Go.RowKit Go.Proofs.Ytpcbhghgommijaa.X Go.Proofs.Ytpcbhghgommijaa.XPure Go.Proofs.YtpcbhghgommijaaW.PrintWords Go.Proofs.YtpcbhghgommijaaW.PrintLast Go.Proofs.YtpcbhghgommijaaW.PrintMore
set_option linter.unusedVariables false
set_option linter.unusedSimpArgs false
set_option maxHeartbeats 1000000

/-! ### Numbers as bytes -/
def putS (l : List Int) (v size : Int) : List Int := l ++ ([v / 16777216 % 256, v / 65536 % 256, v / 256 % 256, v % 256].drop (4 - max 0 (min size 4)).toNat)
theorem put_eq (l : List Int) (v size : Int) (h : l.length + 4 < 140737488355328) : pack_Put.f l v size = some (putS l v size) := by
  unfold pack_Put.f putS
  rw [if_pos h, mx_eq, mn_eq]
theorem put_len (l : List Int) (v size : Int) : ((putS l v size).length : Int) = l.length + max 0 (min size 4) := by
  unfold putS
  rw [List.length_append, List.length_drop]
  simp only [List.length_cons, List.length_nil]
  omega
theorem put_bytes (l : List Int) (v size : Int) (h : ∀ x ∈ l, 0 ≤ x ∧ x < 256) : ∀ x ∈ putS l v size, 0 ≤ x ∧ x < 256 := by
  intro x hx
  unfold putS at hx
  rcases List.mem_append.1 hx with hx | hx
  · exact h x hx
  · have := List.mem_of_mem_drop hx
    simp only [List.mem_cons, List.not_mem_nil, or_false] at this
    omega
/-- The number of bytes, the highest first. -/
def be (v : Int) (l : List Int) : Int := l.foldl (fun v c => v * 256 + c) v
def getOk (l : List Int) (at_ size : Int) : Bool := decide (1 ≤ size ∧ size ≤ 4 ∧ 0 ≤ at_ ∧ at_ + size ≤ l.length)
def getS (l : List Int) (at_ size : Int) : Int × Bool := if getOk l at_ size = true then (be 0 ((l.drop at_.toNat).take size.toNat), true) else (0, false)
theorem be_cons (v c : Int) (l : List Int) : be v (c :: l) = be (v * 256 + c) l := rfl
theorem be_nil (v : Int) : be v [] = v := rfl
theorem pow256 (n : Nat) (h : n ≤ 3) : (256 : Int) ^ n ≤ 16777216 := by
  rcases n with _ | _ | _ | _ | n
  · decide
  · decide
  · decide
  · decide
  · omega
theorem get_loop (xs : List Int) (hb : ∀ x ∈ xs, 0 ≤ x ∧ x < 256) (hl : xs.length ≤ 4) : ∀ (d : Nat) (i : Nat) (v : Int), i + d = xs.length → 0 ≤ v → v < 256 ^ i →
    Ev (fun k => pack_Get.l0 k v xs (xs.length : Int) (i : Int)) (be v (xs.drop i), true) := by
  intro d
  induction d with
  | zero =>
    intro i v hi h0 h1
    refine Ev.step (f := fun _ => some (v, true)) (fun k => ?_) ?_
    · simp only [pack_Get.l0]; rw [if_neg (by omega)]
    · rw [List.drop_of_length_le (by omega)]; exact Ev.now _
  | succ d ih =>
    intro i v hi h0 h1
    have hlt : i < xs.length := by omega
    have hx := hb _ (List.getElem_mem hlt)
    have hp := pow256 i (by omega)
    have e1 : rd xs (i : Int) = xs[i] := by rw [rd_nat, getD_lt hlt]
    have e2 : wrap64 (v * 256) = v * 256 := w64 (by omega) (by omega)
    have e3 : wrap64 (rd xs (i : Int)) = xs[i] := by rw [e1]; exact w64 (by omega) (by omega)
    have e4 : wrap64 ((i : Int) + 1) = ((i + 1 : Nat) : Int) := by rw [w64 (by omega) (by omega)]; omega
    have e5 : Go.bits .or .i64 (v * 256) xs[i] = v * 256 + xs[i] := i64_join 8 (by omega) _ _ (by omega) (by omega) (by omega) hx.1 (by omega) (by omega)
    refine Ev.step (f := fun k => pack_Get.l0 k (v * 256 + xs[i]) xs (xs.length : Int) ((i + 1 : Nat) : Int)) (fun k => ?_) ?_
    · simp only [pack_Get.l0]; rw [if_pos (by omega), if_pos (by omega), if_pos (by omega), e2, e3, e4, e5]
    · rw [drop_cons hlt, be_cons]
      exact ih (i + 1) _ (by omega) (by omega) (by rw [Int.pow_succ]; omega)
theorem get_ev (l : List Int) (at_ size : Int) (hb : ∀ x ∈ l, 0 ≤ x ∧ x < 256) (hl : l.length ≤ 9223372036854775807) (ha : -9223372036854775808 ≤ at_ ∧ at_ ≤ 9223372036854775807) :
    Ev (fun k => pack_Get.f k l at_ size) (getS l at_ size) := by
  have hj : ∀ x : Bool, x = true → getOk l at_ size = false → Ev (fun k => pack_Get.j0 k l at_ size x) (getS l at_ size) := by
    intro x hx hg
    subst hx
    refine Ev.step (f := fun _ => some (0, false)) (fun k => by simp only [pack_Get.j0, if_true]) ?_
    unfold getS
    rw [hg]
    exact Ev.now _
  have gf : ∀ h : ¬ (1 ≤ size ∧ size ≤ 4 ∧ 0 ≤ at_ ∧ at_ + size ≤ l.length), getOk l at_ size = false := fun h => decide_eq_false h
  unfold pack_Get.f
  by_cases h1 : size < 1
  · exact Ev.pos h1 (hj _ rfl (gf (by omega)))
  · refine Ev.neg h1 ?_
    by_cases h2 : size > 4
    · exact Ev.pos h2 (hj _ rfl (gf (by omega)))
    · refine Ev.neg h2 ?_
      by_cases h3 : at_ < 0
      · exact Ev.pos h3 (hj _ rfl (gf (by omega)))
      · refine Ev.neg h3 ?_
        have e1 : wrap64 ((l.length : Int) - size) = l.length - size := w64 (by omega) (by omega)
        rw [e1]
        by_cases h4 : at_ > (l.length : Int) - size
        · exact hj _ (decide_eq_true h4) (gf (by omega))
        · rw [decide_eq_false h4]
          have hg : getOk l at_ size = true := decide_eq_true (by omega)
          have e2 : wrap64 (at_ + size) = at_ + size := w64 (by omega) (by omega)
          have es : (l.take (at_ + size).toNat).drop at_.toNat = (l.drop at_.toNat).take size.toNat := by
            rw [List.drop_take]
            congr 1
            omega
          have el : ((l.drop at_.toNat).take size.toNat).length = size.toNat := by rw [List.length_take, List.length_drop]; omega
          have := get_loop ((l.drop at_.toNat).take size.toNat) (fun x hx => hb x (List.mem_of_mem_drop (List.mem_of_mem_take hx))) (by omega) size.toNat 0 0 (by omega) (by omega) (by decide)
          rw [List.drop_zero] at this
          unfold getS
          rw [if_pos hg]
          have this' : Ev (fun k => (some ((l.drop at_.toNat).take size.toNat : List Int)).bind fun y => pack_Get.l0 k 0 y (y.length : Int) 0) (be 0 ((l.drop at_.toNat).take size.toNat), true) := this
          refine Ev.step (fun k => ?_) this'
          simp only [pack_Get.j0, Bool.false_eq_true, if_false, e2, es]
          rw [if_pos (by omega), if_pos (by omega), if_pos (by omega)]

/-! ### The sum -/
def rot (x : Int) : Int := x * 32 % 4294967296 + x / 134217728
def xr (s c : Int) : Int := ((s.toNat ^^^ c.toNat : Nat) : Int)
def sumStep (s c : Int) : Int := (rot (xr s c) + 2654435761) % 4294967296
def sumS (l : List Int) : Int := l.foldl sumStep 2166136261
theorem xr_eq (s c : Int) (hs : 0 ≤ s ∧ s < 4294967296) (hc : 0 ≤ c ∧ c < 4294967296) : Go.bits .xor .u32 s c = xr s c := by
  have h1 : s.toNat < 4294967296 := by omega
  have h2 : c.toNat < 4294967296 := by omega
  have := nu32_xor s.toNat c.toNat h1 h2
  rw [Int.toNat_of_nonneg hs.1, Int.toNat_of_nonneg hc.1] at this
  exact this
theorem xr_bd (s c : Int) (hs : 0 ≤ s ∧ s < 4294967296) (hc : 0 ≤ c ∧ c < 4294967296) : 0 ≤ xr s c ∧ xr s c < 4294967296 := by
  unfold xr
  have : s.toNat ^^^ c.toNat < 2 ^ 32 := Nat.xor_lt_two_pow (by omega) (by omega)
  omega
theorem rot_or (x : Int) (hx : 0 ≤ x ∧ x < 4294967296) : Go.bits .or .u32 (x * 32 % 4294967296) (x / 134217728) = rot x :=
  u32_join 5 _ _ (by omega) (by omega) (by omega) (by omega) (by omega) (by omega)
theorem rotate_eq (x : Int) (hx : 0 ≤ x ∧ x < 4294967296) : bits_RotateLeft32.f x 5 = some (rot x) := by
  have e1 : Go.bits .and .u64 (IntKind.u64.wrap 5) 31 = 5 := by decide
  have e2 : IntKind.u64.wrap (32 - 5) = 27 := by decide
  unfold bits_RotateLeft32.f
  simp only [e1, e2]
  rw [if_pos (by omega), if_pos (by omega)]
  have e3 : shl .u32 x 5 = x * 32 % 4294967296 := by
    have : min (5 : Int).toNat IntKind.u32.bits = 5 := by decide
    unfold shl
    rw [this, IntKind.wrap_u32]
    rfl
  have e4 : shr .u32 x 27 = x / 134217728 := by
    have : min (27 : Int).toNat IntKind.u32.bits = 27 := by decide
    unfold shr
    rw [this]
    rfl
  rw [e3, e4, rot_or x hx]
theorem rot_bd (x : Int) (hx : 0 ≤ x ∧ x < 4294967296) : 0 ≤ rot x ∧ rot x < 4294967296 := by unfold rot; omega
theorem step_bd (s c : Int) : 0 ≤ sumStep s c ∧ sumStep s c < 4294967296 := by unfold sumStep; omega
theorem sum_bd (l : List Int) : ∀ s, 0 ≤ s ∧ s < 4294967296 → 0 ≤ l.foldl sumStep s ∧ l.foldl sumStep s < 4294967296 := by
  induction l with
  | nil => intro s hs; exact hs
  | cons c l ih => intro s hs; exact ih _ (step_bd s c)
theorem sum_loop (xs : List Int) (hb : ∀ x ∈ xs, 0 ≤ x ∧ x < 256) (hl : xs.length ≤ 9223372036854775806) : ∀ (d : Nat) (i : Nat) (s : Int), i + d = xs.length → 0 ≤ s ∧ s < 4294967296 →
    Ev (fun k => pack_Sum.l0 k s xs (xs.length : Int) (i : Int)) ((xs.drop i).foldl sumStep s) := by
  intro d
  induction d with
  | zero =>
    intro i s hi hs
    refine Ev.step (f := fun _ => some s) (fun k => ?_) ?_
    · simp only [pack_Sum.l0]; rw [if_neg (by omega)]
    · rw [List.drop_of_length_le (by omega)]; exact Ev.now _
  | succ d ih =>
    intro i s hi hs
    have hlt : i < xs.length := by omega
    have hx := hb _ (List.getElem_mem hlt)
    have e1 : rd xs (i : Int) = xs[i] := by rw [rd_nat, getD_lt hlt]
    have e2 : rd xs (i : Int) % 4294967296 = xs[i] := by rw [e1]; omega
    have e4 : wrap64 ((i : Int) + 1) = ((i + 1 : Nat) : Int) := by rw [w64 (by omega) (by omega)]; omega
    have e5 := xr_eq s xs[i] hs (by omega)
    have e6 := rotate_eq (xr s xs[i]) (xr_bd s xs[i] hs (by omega))
    refine Ev.step (f := fun k => pack_Sum.l0 k (sumStep s xs[i]) xs (xs.length : Int) ((i + 1 : Nat) : Int)) (fun k => ?_) ?_
    · simp only [pack_Sum.l0]; rw [if_pos (by omega), if_pos (by omega), if_pos (by omega), e2, e4, e5, e6]; rfl
    · rw [drop_cons hlt]
      exact ih (i + 1) _ (by omega) (step_bd _ _)
theorem sum_ev (l : List Int) (hb : ∀ x ∈ l, 0 ≤ x ∧ x < 256) (hl : l.length ≤ 9223372036854775806) : Ev (fun k => pack_Sum.f k l) (sumS l) := by
  have := sum_loop l hb hl l.length 0 2166136261 (by omega) (by omega)
  exact this

/-! ### Bits as bytes -/
def bitAt (b : List Int) (j : Nat) : Bool := (b.getD (j / 8) 0).toNat.testBit (j % 8)
structure IsBits (l : List Bool) (b : List Int) : Prop where
  len : b.length = (l.length + 7) / 8
  bytes : ∀ x ∈ b, 0 ≤ x ∧ x < 256
  bit : ∀ j, bitAt b j = l.getD j false
theorem byte_at {b : List Int} (h : ∀ x ∈ b, 0 ≤ x ∧ x < 256) (i : Nat) : 0 ≤ b.getD i 0 ∧ b.getD i 0 < 256 := range_of b (fun x => 0 ≤ x ∧ x < 256) h (by omega) i
theorem bytes_ext {a b : List Int} (hl : a.length = b.length) (ha : ∀ x ∈ a, 0 ≤ x ∧ x < 256) (hb : ∀ x ∈ b, 0 ≤ x ∧ x < 256) (h : ∀ j, j < 8 * a.length → bitAt a j = bitAt b j) : a = b := by
  apply List.ext_getElem hl
  intro i h1 h2
  have e1 : a.getD i 0 = a[i] := getD_lt h1
  have e2 : b.getD i 0 = b[i] := getD_lt h2
  have r1 := byte_at ha i
  have r2 := byte_at hb i
  have key : (a.getD i 0).toNat = (b.getD i 0).toNat := by
    apply Nat.eq_of_testBit_eq
    intro m
    by_cases hm : m < 8
    · have := h (8 * i + m) (by omega)
      unfold bitAt at this
      rw [show (8 * i + m) / 8 = i by omega, show (8 * i + m) % 8 = m by omega] at this
      exact this
    · have q1 : (a.getD i 0).toNat < 2 ^ m := Nat.lt_of_lt_of_le (show _ < 2 ^ 8 by omega) (Nat.pow_le_pow_right (by decide) (by omega))
      have q2 : (b.getD i 0).toNat < 2 ^ m := Nat.lt_of_lt_of_le (show _ < 2 ^ 8 by omega) (Nat.pow_le_pow_right (by decide) (by omega))
      rw [Nat.testBit_lt_two_pow q1, Nat.testBit_lt_two_pow q2]
  omega
theorem bits_one {l : List Bool} {a b : List Int} (ha : IsBits l a) (hb : IsBits l b) : a = b :=
  bytes_ext (by rw [ha.len, hb.len]) ha.bytes hb.bytes (fun j _ => by rw [ha.bit, hb.bit])
theorem two_pow_lt (m : Nat) (h : m < 8) : 2 ^ m < 256 := Nat.lt_of_lt_of_le (Nat.pow_lt_pow_right (by decide) h) (by decide)
theorem shl1 (m : Nat) (h : m < 8) : shl .u8 1 (m : Int) = ((2 ^ m : Nat) : Int) := by
  have hm : min (m : Int).toNat IntKind.u8.bits = m := by
    have : IntKind.u8.bits = 8 := by decide
    omega
  have := two_pow_lt m h
  unfold shl
  rw [hm, Int.one_mul, wraps_u8 _ (by exact_mod_cast Nat.zero_le (2 ^ m)) (by exact_mod_cast this)]
  exact_mod_cast rfl
theorem shr_and (x : Int) (m : Nat) (hx : 0 ≤ x ∧ x < 256) (h : m < 8) : (Go.bits .and .u8 (shr .u8 x (m : Int)) 1 == 1) = x.toNat.testBit m := by
  have hm : min (m : Int).toNat IntKind.u8.bits = m := by
    have : IntKind.u8.bits = 8 := by decide
    omega
  have e1 : shr .u8 x (m : Int) = ((x.toNat / 2 ^ m : Nat) : Int) := by
    unfold shr
    rw [hm]
    have : x = (x.toNat : Int) := by omega
    conv => lhs; rw [this]
    exact_mod_cast rfl
  have h1 : x.toNat / 2 ^ m < 256 := Nat.lt_of_le_of_lt (Nat.div_le_self _ _) (by omega)
  rw [e1]
  have e2 := nu8_and (x.toNat / 2 ^ m) 1 h1 (by omega)
  rw [show ((1 : Nat) : Int) = 1 from rfl] at e2
  rw [e2, Nat.and_one_is_mod, Nat.testBit_eq_decide_div_mod_eq]
  have : x.toNat / 2 ^ m % 2 = 0 ∨ x.toNat / 2 ^ m % 2 = 1 := by omega
  rcases this with h | h <;> rw [h] <;> rfl
theorem set_or (b : List Int) (hb : ∀ x ∈ b, 0 ≤ x ∧ x < 256) (i : Nat) (hi : i / 8 < b.length) :
    (∀ x ∈ b.set (i / 8) (Go.bits .or .u8 (rd b ((i / 8 : Nat) : Int)) (shl .u8 1 ((i % 8 : Nat) : Int))), 0 ≤ x ∧ x < 256) ∧
    ∀ j, bitAt (b.set (i / 8) (Go.bits .or .u8 (rd b ((i / 8 : Nat) : Int)) (shl .u8 1 ((i % 8 : Nat) : Int)))) j = (bitAt b j || j == i) := by
  have r := byte_at hb (i / 8)
  have hp := two_pow_lt (i % 8) (by omega)
  have e : Go.bits .or .u8 (rd b ((i / 8 : Nat) : Int)) (shl .u8 1 ((i % 8 : Nat) : Int)) = (((b.getD (i / 8) 0).toNat ||| 2 ^ (i % 8) : Nat) : Int) := by
    rw [shl1 _ (by omega), rd_nat]
    have := nu8_or (b.getD (i / 8) 0).toNat (2 ^ (i % 8)) (by omega) hp
    rw [Int.toNat_of_nonneg r.1] at this
    exact this
  have hlt : (b.getD (i / 8) 0).toNat ||| 2 ^ (i % 8) < 2 ^ 8 := Nat.or_lt_two_pow (by omega) (by omega)
  rw [e]
  refine ⟨fun x hx => ?_, fun j => ?_⟩
  · rcases List.mem_or_eq_of_mem_set hx with hx | rfl
    · exact hb x hx
    · omega
  · unfold bitAt
    by_cases hj : j / 8 = i / 8
    · have : (b.set (i / 8) (((b.getD (i / 8) 0).toNat ||| 2 ^ (i % 8) : Nat) : Int)).getD (j / 8) 0 = (((b.getD (i / 8) 0).toNat ||| 2 ^ (i % 8) : Nat) : Int) := by
        rw [hj, getD_lt (by rw [List.length_set]; exact hi), List.getElem_set_self]
      rw [this, hj, Int.toNat_natCast, Nat.testBit_or, Nat.testBit_two_pow]
      congr 1
      by_cases hji : j = i
      · subst hji; simp
      · have : i % 8 ≠ j % 8 := by omega
        simp [hji, this]
    · have : (b.set (i / 8) (((b.getD (i / 8) 0).toNat ||| 2 ^ (i % 8) : Nat) : Int)).getD (j / 8) 0 = b.getD (j / 8) 0 := by
        simp only [List.getD, List.getElem?_set]
        rw [if_neg (by omega)]
      rw [this]
      have : (j == i) = false := by rw [beq_eq_false_iff_ne]; omega
      rw [this, Bool.or_false]
theorem tdiv8 (i : Nat) (h : i < 9223372036854775807) : wrap64 (Int.tdiv (i : Int) 8) = ((i / 8 : Nat) : Int) := by
  rw [tdiv_nn (by omega), w64 (by omega) (by omega)]; omega
theorem tmod8 (i : Nat) : Int.tmod (i : Int) 8 = ((i % 8 : Nat) : Int) := by rw [tmod_nn (by omega)]; omega
theorem succ64 (i : Nat) (h : i < 9223372036854775807) : wrap64 ((i : Int) + 1) = ((i + 1 : Nat) : Int) := by rw [w64 (by omega) (by omega)]; omega
/-- The bytes in which the first i bits of l are set. -/
structure Upto (l : List Bool) (b : List Int) (i : Nat) : Prop where
  len : b.length = (l.length + 7) / 8
  bytes : ∀ x ∈ b, 0 ≤ x ∧ x < 256
  bit : ∀ j, bitAt b j = (decide (j < i) && l.getD j false)
theorem upto_zero (l : List Bool) : Upto l (List.replicate ((l.length + 7) / 8) 0) 0 := by
  refine ⟨by simp, fun x hx => ?_, fun j => ?_⟩
  · have := (List.mem_replicate.1 hx).2
    omega
  · unfold bitAt
    have : (List.replicate ((l.length + 7) / 8) (0 : Int)).getD (j / 8) 0 = 0 := by
      simp only [List.getD, List.getElem?_replicate]
      split <;> rfl
    rw [this]
    simp
theorem upto_done {l : List Bool} {b : List Int} {i : Nat} (h : Upto l b i) (hi : l.length ≤ i) : IsBits l b := by
  refine ⟨h.len, h.bytes, fun j => ?_⟩
  rw [h.bit]
  by_cases hj : j < i
  · simp [hj]
  · have : l.length ≤ j := by omega
    simp [List.getD, hj, this]
theorem upto_set {l : List Bool} {b : List Int} {i : Nat} (h : Upto l b i) (hi : i < l.length) (ht : l.getD i false = true) :
    Upto l (b.set (i / 8) (Go.bits .or .u8 (rd b ((i / 8 : Nat) : Int)) (shl .u8 1 ((i % 8 : Nat) : Int)))) (i + 1) := by
  have hl := h.len
  obtain ⟨h1, h2⟩ := set_or b h.bytes i (by omega)
  refine ⟨by rw [List.length_set, h.len], h1, fun j => ?_⟩
  rw [h2, h.bit]
  by_cases hj : j = i
  · subst hj; rw [ht]; simp
  · have e1 : (j == i) = false := by simpa using hj
    rw [e1, Bool.or_false]
    congr 1
    apply decide_eq_decide.2
    omega
theorem upto_skip {l : List Bool} {b : List Int} {i : Nat} (h : Upto l b i) (ht : l.getD i false = false) : Upto l b (i + 1) := by
  refine ⟨h.len, h.bytes, fun j => ?_⟩
  rw [h.bit]
  by_cases hj : j = i
  · subst hj; rw [ht]; simp
  · congr 1
    apply decide_eq_decide.2
    omega
theorem bits_loop (l : List Bool) (hl : l.length ≤ 1000000000000) : ∀ (d i : Nat) (b : List Int), i + d = l.length → Upto l b i →
    ∃ r, Ev (fun k => pack_Bits.l0 k b l (l.length : Int) (i : Int)) r ∧ IsBits l r := by
  intro d
  induction d with
  | zero =>
    intro i b hi hu
    refine ⟨b, Ev.step (f := fun _ => some b) (fun k => ?_) (Ev.now _), upto_done hu (by omega)⟩
    simp only [pack_Bits.l0]; rw [if_neg (by omega)]
  | succ d ih =>
    intro i b hi hu
    have hlt : i < l.length := by omega
    have hbl := hu.len
    cases ht : l.getD i false with
    | true =>
      obtain ⟨r, hr, hq⟩ := ih (i + 1) _ (by omega) (upto_set hu hlt ht)
      refine ⟨r, Ev.step (fun k => ?_) hr, hq⟩
      simp only [pack_Bits.l0]
      rw [tdiv8 i (by omega), tmod8, succ64 i (by omega), rdB_nat, ht]
      rw [if_pos (by omega), if_pos (by omega), if_pos (by omega), if_pos rfl, if_pos (by omega), if_pos (by omega), if_pos (by omega), Int.toNat_natCast]
    | false =>
      obtain ⟨r, hr, hq⟩ := ih (i + 1) b (by omega) (upto_skip hu ht)
      refine ⟨r, Ev.step (fun k => ?_) hr, hq⟩
      simp only [pack_Bits.l0]
      rw [succ64 i (by omega), rdB_nat, ht]
      rw [if_pos (by omega), if_pos (by omega), if_pos (by omega), if_neg (by decide)]
theorem length_eq (n : Nat) (h : n ≤ 1000000000000) : pack_length.f (n : Int) = some (((n + 7) / 8 : Nat) : Int) := by
  unfold pack_length.f
  congr 1
  have e1 : wrap64 ((n : Int) + 8) = n + 8 := w64 (by omega) (by omega)
  have e2 : wrap64 ((n : Int) + 8 - 1) = n + 7 := by rw [w64 (by omega) (by omega)]; omega
  have e3 : wrap64 ((n : Int) + 7) = n + 7 := w64 (by omega) (by omega)
  simp only [e1, e2, e3]
  rw [tdiv_nn (by omega), w64 (by omega) (by omega)]
  omega
theorem bits_ev (l : List Bool) (hl : l.length ≤ 1000000000000) : ∃ r, Ev (fun k => pack_Bits.f k l) r ∧ IsBits l r := by
  obtain ⟨r, hr, hq⟩ := bits_loop l hl l.length 0 _ (by omega) (upto_zero l)
  refine ⟨r, ?_, hq⟩
  unfold pack_Bits.f
  refine Ev.bindc (length_eq l.length hl) (Ev.pos (by omega) (Ev.pos (by omega) ?_))
  rw [Int.toNat_natCast]
  exact hr

/-! ### Bytes as bits -/
theorem equal_loop (a b : List Int) (hl : a.length ≤ 1000000000000) (hab : a.length = b.length) : ∀ (d i : Nat), i + d = a.length →
    Ev (fun k => slices_Equal_byte_byte.l0 k a b (a.length : Int) (i : Int)) (decide (a.drop i = b.drop i)) := by
  intro d
  induction d with
  | zero =>
    intro i hi
    refine Ev.step (f := fun _ => some true) (fun k => ?_) ?_
    · simp only [slices_Equal_byte_byte.l0]; rw [if_neg (by omega)]
    · have : decide (a.drop i = b.drop i) = true := by
        rw [List.drop_of_length_le (by omega), List.drop_of_length_le (by omega)]; simp
      rw [this]; exact Ev.now _
  | succ d ih =>
    intro i hi
    have ha : i < a.length := by omega
    have hb : i < b.length := by omega
    have e1 : rd a (i : Int) = a[i] := by rw [rd_nat, getD_lt ha]
    have e2 : rd b (i : Int) = b[i] := by rw [rd_nat, getD_lt hb]
    by_cases he : a[i] = b[i]
    · have : decide (a.drop i = b.drop i) = decide (a.drop (i + 1) = b.drop (i + 1)) := by
        apply decide_eq_decide.2
        rw [drop_cons ha, drop_cons hb, he]
        simp only [List.cons.injEq, true_and]
      rw [this]
      refine Ev.step (fun k => ?_) (ih (i + 1) (by omega))
      simp only [slices_Equal_byte_byte.l0]
      rw [if_pos (by omega), if_pos (by omega), if_pos (by omega), if_pos (by omega), e1, e2, if_pos he, succ64 i (by omega)]
    · have : decide (a.drop i = b.drop i) = false := by
        apply decide_eq_false
        rw [drop_cons ha, drop_cons hb]
        intro h
        exact he (List.cons.inj h).1
      rw [this]
      refine Ev.step (f := fun _ => some false) (fun k => ?_) (Ev.now _)
      simp only [slices_Equal_byte_byte.l0]
      rw [if_pos (by omega), if_pos (by omega), if_pos (by omega), if_pos (by omega), e1, e2, if_neg he]
theorem equal_ev (a b : List Int) (hl : a.length ≤ 1000000000000) : Ev (fun k => slices_Equal_byte_byte.f k a b) (decide (a = b)) := by
  unfold slices_Equal_byte_byte.f
  by_cases h : a.length = b.length
  · refine Ev.pos (by omega) ?_
    have := equal_loop a b hl h a.length 0 (by omega)
    rw [List.drop_zero, List.drop_zero] at this
    exact this
  · refine Ev.neg (by omega) ?_
    have : decide (a = b) = false := decide_eq_false (fun he => h (by rw [he]))
    rw [this]
    exact Ev.now _
def unbitsOk (b : List Int) (n : Int) : Bool := decide (0 ≤ n ∧ n ≤ 8 * b.length ∧ (n.toNat + 7) / 8 = b.length) && (List.range (8 * b.length)).all (fun j => decide (n ≤ j) → bitAt b j = false)
def unbitsS (b : List Int) (n : Int) : List Bool × Bool := if unbitsOk b n = true then ((List.range n.toNat).map (bitAt b), true) else ([], false)
theorem bitAt_out (b : List Int) (j : Nat) (h : 8 * b.length ≤ j) : bitAt b j = false := by
  unfold bitAt
  have : b.getD (j / 8) 0 = 0 := by simp [List.getD, List.getElem?_eq_none (by omega : b.length ≤ j / 8)]
  rw [this]
  simp
theorem ok_iff (b : List Int) (n : Int) : unbitsOk b n = true ↔ 0 ≤ n ∧ n ≤ 8 * b.length ∧ (n.toNat + 7) / 8 = b.length ∧ ∀ j : Nat, n ≤ j → bitAt b j = false := by
  unfold unbitsOk
  rw [Bool.and_eq_true, decide_eq_true_eq, List.all_eq_true]
  constructor
  · rintro ⟨⟨h1, h2, h3⟩, h4⟩
    refine ⟨h1, h2, h3, fun j hj => ?_⟩
    by_cases hl : j < 8 * b.length
    · have := h4 j (List.mem_range.2 hl)
      simpa [hj] using this
    · exact bitAt_out b j (by omega)
  · rintro ⟨h1, h2, h3, h4⟩
    refine ⟨⟨h1, h2, h3⟩, fun j _ => ?_⟩
    simp only [decide_eq_true_eq]
    intro hj
    exact h4 j hj
theorem map_getD (f : Nat → Bool) (n j : Nat) : ((List.range n).map f).getD j false = (decide (j < n) && f j) := by
  by_cases h : j < n
  · rw [getD_lt (by simpa using h)]; simp [h]
  · simp [List.getD, List.getElem?_eq_none (by simpa using h : ((List.range n).map f).length ≤ j), h]
theorem isBits_iff (b : List Int) (n : Nat) (hb : ∀ x ∈ b, 0 ≤ x ∧ x < 256) (hn : (n + 7) / 8 = b.length) : IsBits ((List.range n).map (bitAt b)) b ↔ ∀ j : Nat, n ≤ j → bitAt b j = false := by
  constructor
  · intro h j hj
    rw [h.bit, map_getD]
    simp [Nat.not_lt.2 hj]
  · intro h
    refine ⟨by simp [hn], hb, fun j => ?_⟩
    rw [map_getD]
    by_cases hj : j < n
    · simp [hj]
    · simp [hj, h j (by omega)]
theorem set_map (f : Nat → Bool) (n i : Nat) (hi : i < n) : ((List.range i).map f ++ List.replicate (n - i) false).set i (f i) = (List.range (i + 1)).map f ++ List.replicate (n - (i + 1)) false := by
  have h : n - i = (n - (i + 1)) + 1 := by omega
  rw [List.range_succ, List.map_append, List.append_assoc, h, List.replicate_succ, List.set_append_right _ _ (by simp)]
  simp
theorem unbits_loop (b : List Int) (n : Nat) (hb : ∀ x ∈ b, 0 ≤ x ∧ x < 256) (hl : b.length ≤ 100000000000) (hn : (n + 7) / 8 = b.length) : ∀ (d i : Nat), i + d = n →
    Ev (fun k => pack_Unbits.l0 k b ((List.range i).map (bitAt b) ++ List.replicate (n - i) false) (n : Int) (i : Int)) (unbitsS b n) := by
  intro d
  induction d with
  | zero =>
    intro i hi
    obtain rfl : i = n := by omega
    rw [Nat.sub_self, List.replicate_zero, List.append_nil]
    obtain ⟨r, hr, hq⟩ := bits_ev ((List.range i).map (bitAt b)) (by simp; omega)
    have hrl : r.length ≤ 1000000000000 := by rw [hq.len]; simp; omega
    have heq := equal_ev r b hrl
    refine Ev.step (f := fun k => (pack_Bits.f k ((List.range i).map (bitAt b))).bind fun t213 => ((slices_Equal_byte_byte.f k t213 b).bind fun t216 => (if t216 = true then (some ((List.range i).map (bitAt b), true)) else (some (([] : List Bool), false))))) (fun k => ?_) (Ev.bind hr (Ev.bind heq ?_))
    · simp only [pack_Unbits.l0]; rw [if_neg (by omega)]
    · by_cases he : r = b
      · rw [decide_eq_true he]
        have hok : unbitsOk b i = true := (ok_iff b i).2 ⟨by omega, by omega, by rw [Int.toNat_natCast]; exact hn, fun j hj => (isBits_iff b i hb hn).1 (he ▸ hq) j (by omega)⟩
        unfold unbitsS
        rw [if_pos hok, Int.toNat_natCast]
        exact Ev.pos rfl (Ev.now _)
      · rw [decide_eq_false he]
        have hok : ¬ unbitsOk b i = true := fun h => he (bits_one hq ((isBits_iff b i hb hn).2 (fun j hj => ((ok_iff b i).1 h).2.2.2 j (by omega))))
        unfold unbitsS
        rw [if_neg hok]
        exact Ev.neg (by decide) (Ev.now _)
  | succ d ih =>
    intro i hi
    have hlt : i < n := by omega
    have r := byte_at hb (i / 8)
    refine Ev.step (fun k => ?_) (ih (i + 1) (by omega))
    simp only [pack_Unbits.l0]
    have hlen : ((List.range i).map (bitAt b) ++ List.replicate (n - i) false).length = n := by simp; omega
    rw [tdiv8 i (by omega), tmod8, succ64 i (by omega), rd_nat, shr_and _ _ r (by omega), hlen]
    rw [if_pos (by omega), if_pos (by omega), if_pos (by omega), if_pos (by omega), if_pos (by omega), if_pos (by omega), Int.toNat_natCast]
    have := set_map (bitAt b) n i hlt
    rw [show bitAt b i = (b.getD (i / 8) 0).toNat.testBit (i % 8) from rfl] at this
    rw [this]
theorem unbits_ev (b : List Int) (n : Int) (hb : ∀ x ∈ b, 0 ≤ x ∧ x < 256) (hl : b.length ≤ 100000000000) : Ev (fun k => pack_Unbits.f k b n) (unbitsS b n) := by
  have hj : ∀ x : Bool, x = true → unbitsOk b n = false → Ev (fun k => pack_Unbits.j0 k b n x) (unbitsS b n) := by
    intro x hx hg
    subst hx
    refine Ev.step (f := fun _ => some ([], false)) (fun k => by simp only [pack_Unbits.j0, if_true]) ?_
    unfold unbitsS
    rw [hg]
    exact Ev.now _
  have nf : ¬ (0 ≤ n ∧ n ≤ 8 * b.length ∧ (n.toNat + 7) / 8 = b.length) → unbitsOk b n = false := fun h => by
    unfold unbitsOk
    rw [decide_eq_false h, Bool.false_and]
  have e1 : wrap64 (8 * (b.length : Int)) = 8 * b.length := w64 (by omega) (by omega)
  unfold pack_Unbits.f
  by_cases h1 : n < 0
  · exact Ev.pos h1 (hj _ rfl (nf (by omega)))
  · refine Ev.neg h1 ?_
    rw [e1]
    by_cases h2 : n > 8 * (b.length : Int)
    · exact Ev.pos h2 (hj _ rfl (nf (by omega)))
    · refine Ev.neg h2 ?_
      obtain ⟨m, rfl⟩ := Int.eq_ofNat_of_zero_le (show 0 ≤ n by omega)
      refine Ev.bindc (length_eq m (by omega)) ?_
      by_cases h3 : (m + 7) / 8 = b.length
      · have : ((b.length : Int) != (((m + 7) / 8 : Nat) : Int)) = false := by rw [h3]; simp
        rw [this]
        have hlen : (List.replicate m false).length = m := List.length_replicate
        have := unbits_loop b m hb hl h3 m 0 (by omega)
        rw [Nat.sub_zero] at this
        have this' : Ev (fun k => (some (List.replicate m false)).bind fun y => pack_Unbits.l0 k b y (y.length : Int) 0) (unbitsS b m) := by
          simp only [Option.bind_some, hlen]
          exact this
        refine Ev.step (fun k => ?_) this'
        simp only [pack_Unbits.j0, Bool.false_eq_true, if_false, Int.toNat_natCast]
        rw [if_pos (by omega), if_pos (by omega)]
      · have : ((b.length : Int) != (((m + 7) / 8 : Nat) : Int)) = true := by rw [bne_iff_ne]; omega
        exact hj _ this (nf (by rw [Int.toNat_natCast]; omega))
/-! ### What was put is got again -/
theorem be_put (v : Int) (k : Nat) (h1 : 1 ≤ k) (h4 : k ≤ 4) : be 0 ([v / 16777216 % 256, v / 65536 % 256, v / 256 % 256, v % 256].drop (4 - k)) = v % 2 ^ (8 * k) := by
  have hk : k = 1 ∨ k = 2 ∨ k = 3 ∨ k = 4 := by omega
  rcases hk with rfl | rfl | rfl | rfl
  · show (0 * 256 + v % 256 : Int) = v % 2 ^ 8
    omega
  · show ((0 * 256 + v / 256 % 256) * 256 + v % 256 : Int) = v % 2 ^ 16
    omega
  · show (((0 * 256 + v / 65536 % 256) * 256 + v / 256 % 256) * 256 + v % 256 : Int) = v % 2 ^ 24
    omega
  · show ((((0 * 256 + v / 16777216 % 256) * 256 + v / 65536 % 256) * 256 + v / 256 % 256) * 256 + v % 256 : Int) = v % 2 ^ 32
    omega
theorem get_put (a rest : List Int) (v : Int) (k : Nat) (h1 : 1 ≤ k) (h4 : k ≤ 4) : getS (putS a v k ++ rest) (a.length : Int) (k : Int) = (v % 2 ^ (8 * k), true) := by
  have hm : (4 - max 0 (min (k : Int) 4)).toNat = 4 - k := by omega
  have hl := put_len a v k
  have hg : getOk (putS a v k ++ rest) (a.length : Int) (k : Int) = true := by
    apply decide_eq_true
    rw [List.length_append]
    omega
  unfold getS
  rw [if_pos hg, Int.toNat_natCast, Int.toNat_natCast]
  have e : (((putS a v k ++ rest).drop a.length).take k) = [v / 16777216 % 256, v / 65536 % 256, v / 256 % 256, v % 256].drop (4 - k) := by
    unfold putS
    rw [hm, List.append_assoc, List.drop_left]
    rw [List.take_append_of_le_length (by simp; omega), List.take_of_length_le (by simp; omega)]
  rw [e, be_put v k h1 h4]
theorem mask64 (v : Int) (k : Nat) (h1 : 1 ≤ k) (h4 : k ≤ 4) (hv : 0 ≤ v ∧ v < 4294967296) : Go.bits .and .i64 v (wrap64 (shl .i64 1 (IntKind.u64.wrap (wrap64 (8 * (k : Int)))) - 1)) = v % 2 ^ (8 * k) := by
  have e1 : IntKind.u64.wrap (wrap64 (8 * (k : Int))) = ((8 * k : Nat) : Int) := by rw [w64 (by omega) (by omega), u64w (by omega) (by omega)]; omega
  have hp : (2 : Int) ^ (8 * k) ≤ 4294967296 ∧ 0 < (2 : Int) ^ (8 * k) := by
    have hk : k = 1 ∨ k = 2 ∨ k = 3 ∨ k = 4 := by omega
    rcases hk with rfl | rfl | rfl | rfl <;> decide
  have e2 : shl .i64 1 ((8 * k : Nat) : Int) = 2 ^ (8 * k) := by
    have : min ((8 * k : Nat) : Int).toNat IntKind.i64.bits = 8 * k := by
      have : IntKind.i64.bits = 64 := by decide
      omega
    unfold shl
    rw [this, Int.one_mul, wraps_i64 _ (by omega) (by omega)]
  rw [e1, e2, w64 (by omega) (by omega)]
  exact bits_mask .i64 63 (by decide) wraps_i64 (8 * k) (by omega) v hv.1 (by omega)
theorem size_of (s : Int) (h : 0 ≤ s) (h2 : s < 9223372036854775807) : ∃ k : Nat, 1 ≤ k ∧ k ≤ 4 ∧ wrap64 (1 + Int.tmod (wrap64 s) 4) = (k : Int) := by
  refine ⟨(1 + s % 4).toNat, by omega, by omega, ?_⟩
  rw [w64 (n := s) (by omega) (by omega), tmod_nn h, w64 (by omega) (by omega)]
  omega
theorem unbits_bits {l : List Bool} {b : List Int} (h : IsBits l b) : unbitsS b l.length = (l, true) := by
  have hok : unbitsOk b l.length = true := (ok_iff b _).2 ⟨by omega, by have := h.len; omega, by rw [Int.toNat_natCast, h.len], fun j hj => by
    rw [h.bit]
    simp [List.getD, List.getElem?_eq_none (by omega : l.length ≤ j)]⟩
  unfold unbitsS
  rw [if_pos hok, Int.toNat_natCast]
  congr 1
  apply List.ext_getElem (by simp)
  intro i h1 h2
  simp only [List.getElem_map, List.getElem_range]
  rw [h.bit, getD_lt h2]
end Go.Proofs.Ytpcbhghgommijaa.XPack
