/- A part of the proof of SegmentWhole: contracts of functions, or what these lean on. No condition. -/
import Derived.Test.YtldoffdakikaeaaDoorPU3
import Derived.Test.YtldoffdakikaeaaDoorVM4
import Derived.Test.YtldoffdakikaeaaDoorVStr
namespace Go.V
open Go.Proofs
set_option maxRecDepth 8000
set_option linter.unusedSimpArgs false
set_option linter.unusedVariables false
def lfr (c : UInt8) : Int := if c.toNat < 194 then 0 else if c.toNat < 224 then 194 else if c.toNat = 224 then 224 else if c.toNat < 237 then 225 else if c.toNat = 237 then 237 else if c.toNat < 240 then 238 else if c.toNat = 240 then 240 else if c.toNat < 244 then 241 else if c.toNat = 244 then 244 else 0
def lto (c : UInt8) : Int := if c.toNat < 128 then 127 else if c.toNat < 194 then 0 else if c.toNat < 224 then 223 else if c.toNat = 224 then 224 else if c.toNat < 237 then 236 else if c.toNat = 237 then 237 else if c.toNat < 240 then 239 else if c.toNat = 240 then 240 else if c.toNat < 244 then 243 else if c.toNat = 244 then 244 else 0
abbrev pU (n : Int) : PV := .prim (.int .u8 n)
def leadP (c : UInt8) : PV := .agg [pU (lfr c), pU (lto c), pI (lsz c), pU (llo c), pU (lhi c)]
def leadsV : List Value := [.int .u8 0, .int .u8 127, .int .i64 1, .int .u8 0, .int .u8 0, .int .u8 194, .int .u8 223, .int .i64 2, .int .u8 128, .int .u8 191, .int .u8 224, .int .u8 224, .int .i64 3, .int .u8 160, .int .u8 191,
  .int .u8 225, .int .u8 236, .int .i64 3, .int .u8 128, .int .u8 191, .int .u8 237, .int .u8 237, .int .i64 3, .int .u8 128, .int .u8 159, .int .u8 238, .int .u8 239, .int .i64 3, .int .u8 128, .int .u8 191,
  .int .u8 240, .int .u8 240, .int .i64 4, .int .u8 144, .int .u8 191, .int .u8 241, .int .u8 243, .int .i64 4, .int .u8 128, .int .u8 191, .int .u8 244, .int .u8 244, .int .i64 4, .int .u8 128, .int .u8 143]
def leadsC : List PV := leadsV.map .prim
theorem leads_val : cellVals leadsC = some leadsV := rfl
theorem leads_len : leadsC.length = 45 := rfl
theorem leads_take : leadsC.take 45 = leadsC := rfl
theorem leads_no : noOwnL leadsC = true := rfl
/-- the i-th of the first bytes' rows -/
def leadV (i : Nat) : List Value := (leadsV.drop (i * 5)).take 5
def leadN (i : Nat) (j : Nat) : Int := match (leadV i)[j]? with
  | some (.int _ n) => n
  | _ => 0
def leadC (i : Nat) : List PV := [pU (leadN i 0), pU (leadN i 1), pI (leadN i 2), pU (leadN i 3), pU (leadN i 4)]
theorem leadC_eq {i : Nat} (h : i < 9) : ((leadsV.drop (i * 5)).take 5).all flat = true ∧ ((leadsV.drop (i * 5)).take 5).map PV.prim = leadC i := by
  rcases (show i = 0 ∨ i = 1 ∨ i = 2 ∨ i = 3 ∨ i = 4 ∨ i = 5 ∨ i = 6 ∨ i = 7 ∨ i = 8 by omega) with rfl | rfl | rfl | rfl | rfl | rfl | rfl | rfl | rfl <;> exact ⟨rfl, rfl⟩
theorem idx_leads {k : IntKind} {i : Nat} (h : i < 9) : idxP Tryd.prog 116 (.agg leadsV.toArray) (.int k i) = some (.agg (leadC i)) := by
  rw [idxP_agg (n := 9) (e := 102) Tryd.underlying116 (by decide +kernel) (by decide +kernel), if_pos (by omega)]
  have e : esz Tryd.prog 102 = 5 := by decide +kernel
  rw [e, Int.toNat_natCast, if_pos (leadC_eq h).1, (leadC_eq h).2]
/-- no row of the first ones has the byte -/
def noLead (c : UInt8) (i : Nat) : Prop := ∀ j, j < i → ¬ (leadN j 0 ≤ (c.toNat : Int) ∧ (c.toNat : Int) ≤ leadN j 1)
theorem noLead_0 {c : UInt8} : noLead c 0 := fun j h => by omega
theorem noLead_s {c : UInt8} {i : Nat} (h : noLead c i) (h2 : ¬ (leadN i 0 ≤ (c.toNat : Int) ∧ (c.toNat : Int) ≤ leadN i 1)) : noLead c (i + 1) := fun j hj => by
  rcases Nat.lt_or_ge j i with k | k
  · exact h j k
  · obtain rfl : j = i := by omega
    exact h2
def leadChk (n i : Nat) : Bool := (!(decide (leadN i 0 ≤ (n : Int)) && decide ((n : Int) ≤ leadN i 1))) || (decide (lfr (UInt8.ofNat n) = leadN i 0) && decide (lto (UInt8.ofNat n) = leadN i 1) && decide ((lsz (UInt8.ofNat n) : Int) = leadN i 2) && decide (llo (UInt8.ofNat n) = leadN i 3) && decide (lhi (UInt8.ofNat n) = leadN i 4) && decide (¬ lsz (UInt8.ofNat n) = 0))
def leadOut (n : Nat) : Bool := ((List.range 9).any fun i => decide (leadN i 0 ≤ (n : Int)) && decide ((n : Int) ≤ leadN i 1)) || (decide (lfr (UInt8.ofNat n) = 0) && decide (lto (UInt8.ofNat n) = 0) && decide (lsz (UInt8.ofNat n) = 0) && decide (llo (UInt8.ofNat n) = 0) && decide (lhi (UInt8.ofNat n) = 0))
theorem lead_all : ((List.range 256).all fun n => (List.range 9).all (leadChk n)) = true := by decide +kernel
theorem lead_not : ((List.range 256).all leadOut) = true := by decide +kernel
theorem lead_yes {c : UInt8} {i : Nat} (h : i < 9) (h2 : leadN i 0 ≤ (c.toNat : Int) ∧ (c.toNat : Int) ≤ leadN i 1) : (lfr c = leadN i 0 ∧ lto c = leadN i 1 ∧ (lsz c : Int) = leadN i 2 ∧ llo c = leadN i 3 ∧ lhi c = leadN i 4) ∧ ¬ lsz c = 0 := by
  have := List.all_eq_true.1 (List.all_eq_true.1 lead_all c.toNat (List.mem_range.2 c.toNat_lt)) i (List.mem_range.2 h)
  unfold leadChk at this
  rw [UInt8.ofNat_toNat] at this
  simp only [h2.1, h2.2, decide_true, Bool.and_true, Bool.not_true, Bool.false_or, Bool.and_eq_true, decide_eq_true_iff] at this
  obtain ⟨⟨⟨⟨⟨h0, h1⟩, h3⟩, h4⟩, h5⟩, h6⟩ := this
  exact ⟨⟨h0, h1, h3, h4, h5⟩, h6⟩
theorem lead_no {c : UInt8} (h : noLead c 9) : lfr c = 0 ∧ lto c = 0 ∧ lsz c = 0 ∧ llo c = 0 ∧ lhi c = 0 := by
  have := List.all_eq_true.1 lead_not c.toNat (List.mem_range.2 c.toNat_lt)
  unfold leadOut at this
  rw [UInt8.ofNat_toNat, Bool.or_eq_true] at this
  rcases this with h1 | h1
  · obtain ⟨i, hi, h2⟩ := List.any_eq_true.1 h1
    rw [Bool.and_eq_true, decide_eq_true_iff, decide_eq_true_iff] at h2
    exact absurd h2 (h i (List.mem_range.1 hi))
  · simp only [Bool.and_eq_true, decide_eq_true_iff] at h1
    obtain ⟨⟨⟨⟨h0, h1⟩, h3⟩, h4⟩, h5⟩ := h1
    exact ⟨h0, h1, h3, h4, h5⟩
attribute [irreducible] leadN lfr lto

def e_utf_of : UInt8 → List PV := fun c => [pY c]
noncomputable def g_utf_of : List PV → Option (PV × List PV) := spec e_utf_of (fun c => True) fun c => (.tup [leadP c, pB (decide (lsz c ≠ 0))], [])
theorem e_utf_of_inj (a b : UInt8) (h : e_utf_of a = e_utf_of b) : a = b := by
  simp [e_utf_of, map_pI_inj, map_pB_inj, map_pY_inj, map_pBand_inj, map_sI_inj, str_inj, Int.natCast_inj, UInt8.toNat_inj, UInt32.toNat_inj] at h; first | exact h | (simp [h]; done) | exact UInt32.toNat_inj.1 (by omega) | exact UInt8.toNat_inj.1 (by omega) | (simp only [Prod.mk.injEq, ← UInt8.toNat_inj, ← UInt32.toNat_inj] at *; omega) | grind
theorem Ok_utf_of {c : UInt8} {K : PV × List PV → Prop} : Ok (g_utf_of [pY c]) K = ((True) ∧ K (.tup [leadP c, pB (decide (lsz c ≠ 0))], [])) := Ok_spec e_utf_of_inj c
set_option maxHeartbeats 1000000 in
theorem impl_utf_of {tbl : Tbl} {G : Nat → Option (List PV)} (hT : Tb tbl G) (hG : G 0 = some leadsC) : Impl Tryd.prog G 61 (g_utf_of) := by
  refine impl_p (E := { En tbl G 23 (fun i => 23 :: k_utf_of i) [] with gs := [0] }) (c := _) hT mixed Tryd.func61 rfl rfl (fun a => by simp [e_utf_of, pinned.eq_1, pinned.eq_2, PV.isMut.eq_1, PV.isMut.eq_2]) ?_
  rintro c hok
  refine ⟨by simp [e_utf_of], ?_⟩
  simp -implicitDefEqProofs +contextual (maxSteps := 4000000) [-Int.not_le, -Int.not_lt, -Nat.not_le, -Nat.not_lt, -UInt32.toNat_or, -UInt32.toNat_xor, -UInt32.toNat_and, -UInt8.toNat_or, -UInt8.toNat_xor, -UInt8.toNat_and, -UInt32.toNat_add, -UInt8.toNat_add, -List.map_take, -List.map_drop, ← List.map_take, ← List.map_drop, -List.length_take, -List.length_drop, -List.map_replicate, rep_pY0, rep_pB0, rep_pI0, e_utf_of.eq_1, Tryd.results61, hG, leads_val, leads_len, leads_take, leads_no]
  refine loopu (fun i => i ≤ 9 ∧ noLead c i) (fun i => [(7, pI i)]) (fun i => 9 - i) ?_ (s := 0) rfl ⟨by omega, noLead_0⟩
  rintro i ⟨hi, hn⟩
  by_cases h9 : i = 9
  · subst h9
    obtain ⟨q0, q1, q2, q3, q4⟩ := lead_no hn
    simp -implicitDefEqProofs +contextual (maxSteps := 4000000) [-Int.not_le, -Int.not_lt, -Nat.not_le, -Nat.not_lt, -UInt32.toNat_or, -UInt32.toNat_xor, -UInt32.toNat_and, -UInt8.toNat_or, -UInt8.toNat_xor, -UInt8.toNat_and, -UInt32.toNat_add, -UInt8.toNat_add, -List.map_take, -List.map_drop, ← List.map_take, ← List.map_drop, -List.length_take, -List.length_drop, -List.map_replicate, rep_pY0, rep_pB0, rep_pI0, e_utf_of.eq_1, Tryd.results61, q0, q1, q2, q3, q4, leadP, pU]
  have h9' : i < 9 := by omega
  have hi9 : (i : Int) < 9 := by omega
  by_cases hm : leadN i 0 ≤ (c.toNat : Int) ∧ (c.toNat : Int) ≤ leadN i 1
  · obtain ⟨⟨q0, q1, q5, q3, q4⟩, q2⟩ := lead_yes h9' hm
    obtain ⟨m1, m2⟩ := hm
    simp -implicitDefEqProofs +contextual (maxSteps := 4000000) [-Int.not_le, -Int.not_lt, -Nat.not_le, -Nat.not_lt, -UInt32.toNat_or, -UInt32.toNat_xor, -UInt32.toNat_and, -UInt8.toNat_or, -UInt8.toNat_xor, -UInt8.toNat_and, -UInt32.toNat_add, -UInt8.toNat_add, -List.map_take, -List.map_drop, ← List.map_take, ← List.map_drop, -List.length_take, -List.length_drop, -List.map_replicate, rep_pY0, rep_pB0, rep_pI0, e_utf_of.eq_1, Tryd.results61, leads_val, idx_leads h9', hi9, leadC, leadP, q0, q1, q5, q3, q4, m1, m2, q2, pU]
  · simp -implicitDefEqProofs +contextual (maxSteps := 4000000) [-Int.not_le, -Int.not_lt, -Nat.not_le, -Nat.not_lt, -UInt32.toNat_or, -UInt32.toNat_xor, -UInt32.toNat_and, -UInt8.toNat_or, -UInt8.toNat_xor, -UInt8.toNat_and, -UInt32.toNat_add, -UInt8.toNat_add, -List.map_take, -List.map_drop, ← List.map_take, ← List.map_drop, -List.length_take, -List.length_drop, -List.map_replicate, rep_pY0, rep_pB0, rep_pI0, e_utf_of.eq_1, Tryd.results61, leads_val, idx_leads h9', hi9, leadC, pU]
    have nx : ∃ s', (s' ≤ 9 ∧ noLead c s') ∧ 9 - s' < 9 - i ∧ (i : Int) + 1 = (s' : Int) := ⟨i + 1, ⟨by omega, noLead_s hn hm⟩, by omega, by omega⟩
    exact ⟨fun a => ⟨fun b => absurd ⟨a, b⟩ hm, fun b => ⟨by unfold fits; omega, fun _ => nx⟩⟩, fun a => ⟨by unfold fits; omega, fun _ => nx⟩⟩

end Go.V
