/- Texts of this claim, put together: what no text names is left out (wip/x/prune.py). -/
import Derived.Test.YtpcbhghgommijaaPTableBack10
section
namespace Go.Proofs.Ytpcbhghgommijaa.XTabEq
open Go Go.RowKit Go.Proofs.Ytpcbhghgommijaa.X Go.Proofs.Ytpcbhghgommijaa.XPure Go.Proofs.Ytpcbhghgommijaa.XPack Go.Proofs.Ytpcbhghgommijaa.XTable Go.Proofs.YtpcbhghgommijaaW.PrintWords Go.Proofs.YtpcbhghgommijaaW.PrintLast Go.Proofs.YtpcbhghgommijaaW.PrintMore
set_option linter.unusedVariables false
set_option linter.unusedSimpArgs false
set_option maxHeartbeats 1000000
theorem ba_ext {a b : Ba} (h0 : a.f0 = b.f0) (h1 : a.f1 = b.f1) : a = b := by cases a; cases b; simp_all
instance : DecidableEq Ba := fun a b => if h : a.f0 = b.f0 ∧ a.f1 = b.f1 then isTrue (ba_ext h.1 h.2) else isFalse (fun e => h (by rw [e]; exact ⟨rfl, rfl⟩))
theorem eq_loop {α : Type} [DecidableEq α] (a b : List α) (L : Nat → Nat → Option Bool) (hab : a.length = b.length) (hstop : ∀ i, a.length ≤ i → Ev (fun k => L k i) true)
    (hyes : ∀ i (h : i < a.length) (h' : i < b.length), a[i] = b[i] → ∀ r, Ev (fun k => L k (i + 1)) r → Ev (fun k => L k i) r) (hno : ∀ i (h : i < a.length) (h' : i < b.length), a[i] ≠ b[i] → Ev (fun k => L k i) false) : Ev (fun k => L k 0) (decide (a = b)) := by
  have main : ∀ (d i : Nat), i + d = a.length → Ev (fun k => L k i) (decide (a.drop i = b.drop i)) := by
    intro d
    induction d with
    | zero =>
      intro i hi
      rw [decide_eq_true (by rw [List.drop_of_length_le (by omega), List.drop_of_length_le (by omega)])]
      exact hstop i (by omega)
    | succ d ih =>
      intro i hi
      have ha : i < a.length := by omega
      have hb : i < b.length := by omega
      by_cases he : a[i] = b[i]
      · have : decide (a.drop i = b.drop i) = decide (a.drop (i + 1) = b.drop (i + 1)) := by
          apply decide_eq_decide.2
          rw [drop_cons ha, drop_cons hb, he]
          simp only [List.cons.injEq, true_and]
        rw [this]
        exact hyes i ha hb he _ (ih (i + 1) (by omega))
      · rw [decide_eq_false (by rw [drop_cons ha, drop_cons hb]; exact fun h => he (List.cons.inj h).1)]
        exact hno i ha hb he
  have := main a.length 0 (by omega)
  rw [List.drop_zero, List.drop_zero] at this
  exact this
theorem ne_len {α : Type} [DecidableEq α] {a b : List α} (h : a.length ≠ b.length) : decide (a = b) = false := decide_eq_false (fun e => h (by rw [e]))
theorem ba_ne (a b : Ba) : (!(a.f0 == b.f0) || (!(a.f1 == b.f1))) = true ↔ a ≠ b := by
  constructor
  · intro h e; rw [e] at h; simp at h
  · intro h
    cases hc : (!(a.f0 == b.f0) || (!(a.f1 == b.f1)))
    · simp at hc; exact absurd (ba_ext hc.1 hc.2) h
    · rfl
theorem kbands_ev (a b : List Ba) (hl : a.length ≤ 1000000000000) : Ev (fun k => caesurakeep_Bands.f k a b) (decide (a = b)) := by
  unfold caesurakeep_Bands.f
  by_cases h : a.length = b.length
  · refine Ev.pos (by omega) ?_
    refine eq_loop a b (fun k i => caesurakeep_Bands.l0 k a b (i : Int)) h (fun i hi => Ev.step (f := fun _ => some true) (fun k => ?_) (Ev.now _)) (fun i h1 h2 he r hr => Ev.step (fun k => ?_) hr) (fun i h1 h2 he => Ev.step (f := fun _ => some false) (fun k => ?_) (Ev.now _))
    · simp only [caesurakeep_Bands.l0]; rw [if_neg (by omega)]
    · simp only [caesurakeep_Bands.l0]; rw [if_pos (by omega), if_pos (by omega), if_pos (by omega), rdT _ _ h1, rdT _ _ h2, if_neg (fun h => (ba_ne _ _).1 h he), succ64 i (by omega)]
    · simp only [caesurakeep_Bands.l0]; rw [if_pos (by omega), if_pos (by omega), if_pos (by omega), rdT _ _ h1, rdT _ _ h2, if_pos ((ba_ne _ _).2 he)]
  · rw [ne_len h]; exact Ev.neg (by omega) (Ev.now _)
theorem tbands_ev (a b : List Ba) (hl : a.length ≤ 1000000000000) : Ev (fun k => api_Band.f k a b) (decide (a = b)) := by
  unfold api_Band.f
  by_cases h : a.length = b.length
  · refine Ev.pos (by omega) ?_
    refine eq_loop a b (fun k i => api_Band.l0 k a b (a.length : Int) (i : Int)) h (fun i hi => Ev.step (f := fun _ => some true) (fun k => ?_) (Ev.now _)) (fun i h1 h2 he r hr => Ev.step (fun k => ?_) hr) (fun i h1 h2 he => Ev.step (f := fun _ => some false) (fun k => ?_) (Ev.now _))
    · simp only [api_Band.l0]; rw [if_neg (by omega)]
    · simp only [api_Band.l0]; rw [if_pos (by omega), if_pos (by omega), if_pos (by omega), if_pos (by omega), rdT _ _ h1, rdT _ _ h2, if_neg (fun h => (ba_ne _ _).1 h he), succ64 i (by omega)]
    · simp only [api_Band.l0]; rw [if_pos (by omega), if_pos (by omega), if_pos (by omega), if_pos (by omega), rdT _ _ h1, rdT _ _ h2, if_pos ((ba_ne _ _).2 he)]
  · rw [ne_len h]; exact Ev.neg (by omega) (Ev.now _)
theorem kints_ev (a b : List Int) (hl : a.length ≤ 1000000000000) : Ev (fun k => caesurakeep_Ints.f k a b) (decide (a = b)) := by
  unfold caesurakeep_Ints.f
  by_cases h : a.length = b.length
  · refine Ev.pos (by omega) ?_
    refine eq_loop a b (fun k i => caesurakeep_Ints.l0 k a b (i : Int)) h (fun i hi => Ev.step (f := fun _ => some true) (fun k => ?_) (Ev.now _)) (fun i h1 h2 he r hr => Ev.step (fun k => ?_) hr) (fun i h1 h2 he => Ev.step (f := fun _ => some false) (fun k => ?_) (Ev.now _))
    · simp only [caesurakeep_Ints.l0]; rw [if_neg (by omega)]
    · simp only [caesurakeep_Ints.l0]; rw [if_pos (by omega), if_pos (by omega), if_pos (by omega), rd_nat, rd_nat, getD_lt h1, getD_lt h2, if_pos he, succ64 i (by omega)]
    · simp only [caesurakeep_Ints.l0]; rw [if_pos (by omega), if_pos (by omega), if_pos (by omega), rd_nat, rd_nat, getD_lt h1, getD_lt h2, if_neg he]
  · rw [ne_len h]; exact Ev.neg (by omega) (Ev.now _)
theorem tints_ev (a b : List Int) (hl : a.length ≤ 1000000000000) : Ev (fun k => slices_Equal_int_int.f k a b) (decide (a = b)) := by
  unfold slices_Equal_int_int.f
  by_cases h : a.length = b.length
  · refine Ev.pos (by omega) ?_
    refine eq_loop a b (fun k i => slices_Equal_int_int.l0 k a b (a.length : Int) (i : Int)) h (fun i hi => Ev.step (f := fun _ => some true) (fun k => ?_) (Ev.now _)) (fun i h1 h2 he r hr => Ev.step (fun k => ?_) hr) (fun i h1 h2 he => Ev.step (f := fun _ => some false) (fun k => ?_) (Ev.now _))
    · simp only [slices_Equal_int_int.l0]; rw [if_neg (by omega)]
    · simp only [slices_Equal_int_int.l0]; rw [if_pos (by omega), if_pos (by omega), if_pos (by omega), if_pos (by omega), rd_nat, rd_nat, getD_lt h1, getD_lt h2, if_pos he, succ64 i (by omega)]
    · simp only [slices_Equal_int_int.l0]; rw [if_pos (by omega), if_pos (by omega), if_pos (by omega), if_pos (by omega), rd_nat, rd_nat, getD_lt h1, getD_lt h2, if_neg he]
  · rw [ne_len h]; exact Ev.neg (by omega) (Ev.now _)
theorem same1_ev (a b : List Int) (hl : a.length ≤ 1000000000000) : Ev (fun k => table_Same_1.f k a b) (decide (a = b)) := by
  unfold table_Same_1.f
  exact Ev.bind (tints_ev a b hl) (Ev.now _)
theorem kbools_ev (a b : List Bool) (hl : a.length ≤ 1000000000000) : Ev (fun k => caesurakeep_Bools.f k a b) (decide (a = b)) := by
  unfold caesurakeep_Bools.f
  by_cases h : a.length = b.length
  · refine Ev.pos (by omega) ?_
    refine eq_loop a b (fun k i => caesurakeep_Bools.l0 k a b (i : Int)) h (fun i hi => Ev.step (f := fun _ => some true) (fun k => ?_) (Ev.now _)) (fun i h1 h2 he r hr => Ev.step (fun k => ?_) hr) (fun i h1 h2 he => Ev.step (f := fun _ => some false) (fun k => ?_) (Ev.now _))
    · simp only [caesurakeep_Bools.l0]; rw [if_neg (by omega)]
    · simp only [caesurakeep_Bools.l0]; rw [if_pos (by omega), if_pos (by omega), if_pos (by omega), rdB_nat, rdB_nat, getD_lt h1, getD_lt h2, if_neg (by simpa using he), succ64 i (by omega)]
    · simp only [caesurakeep_Bools.l0]; rw [if_pos (by omega), if_pos (by omega), if_pos (by omega), rdB_nat, rdB_nat, getD_lt h1, getD_lt h2, if_pos (by simpa using he)]
  · rw [ne_len h]; exact Ev.neg (by omega) (Ev.now _)
theorem tbools_ev (a b : List Bool) (hl : a.length ≤ 1000000000000) : Ev (fun k => slices_Equal_bool_bool.f k a b) (decide (a = b)) := by
  unfold slices_Equal_bool_bool.f
  by_cases h : a.length = b.length
  · refine Ev.pos (by omega) ?_
    refine eq_loop a b (fun k i => slices_Equal_bool_bool.l0 k a b (a.length : Int) (i : Int)) h (fun i hi => Ev.step (f := fun _ => some true) (fun k => ?_) (Ev.now _)) (fun i h1 h2 he r hr => Ev.step (fun k => ?_) hr) (fun i h1 h2 he => Ev.step (f := fun _ => some false) (fun k => ?_) (Ev.now _))
    · simp only [slices_Equal_bool_bool.l0]; rw [if_neg (by omega)]
    · simp only [slices_Equal_bool_bool.l0]; rw [if_pos (by omega), if_pos (by omega), if_pos (by omega), if_pos (by omega), rdB_nat, rdB_nat, getD_lt h1, getD_lt h2, if_neg (by simpa using he), succ64 i (by omega)]
    · simp only [slices_Equal_bool_bool.l0]; rw [if_pos (by omega), if_pos (by omega), if_pos (by omega), if_pos (by omega), rdB_nat, rdB_nat, getD_lt h1, getD_lt h2, if_pos (by simpa using he)]
  · rw [ne_len h]; exact Ev.neg (by omega) (Ev.now _)
theorem klists_ev (a b : List (List Int)) (hl : a.length ≤ 1000000000000) (hr : ∀ x ∈ a, x.length ≤ 1000000000000) : Ev (fun k => caesurakeep_Lists.f k a b) (decide (a = b)) := by
  unfold caesurakeep_Lists.f
  by_cases h : a.length = b.length
  · refine Ev.pos (by omega) ?_
    refine eq_loop a b (fun k i => caesurakeep_Lists.l0 k a b (i : Int)) h (fun i hi => Ev.step (f := fun _ => some true) (fun k => ?_) (Ev.now _))
      (fun i h1 h2 he r hr' => Ev.step (f := fun k => (caesurakeep_Ints.f k a[i] b[i]).bind fun t => if t = true then caesurakeep_Lists.l0 k a b ((i + 1 : Nat) : Int) else some false) (fun k => ?_) (Ev.bind (kints_ev a[i] b[i] (hr _ (List.getElem_mem h1))) (Ev.pos (decide_eq_true he) hr')))
      (fun i h1 h2 he => Ev.step (f := fun k => (caesurakeep_Ints.f k a[i] b[i]).bind fun t => if t = true then caesurakeep_Lists.l0 k a b ((i + 1 : Nat) : Int) else some false) (fun k => ?_) (Ev.bind (kints_ev a[i] b[i] (hr _ (List.getElem_mem h1))) (Ev.neg (by simpa using he) (Ev.now _))))
    · simp only [caesurakeep_Lists.l0]; rw [if_neg (by omega)]
    · simp only [caesurakeep_Lists.l0]; rw [if_pos (by omega), if_pos (by omega), if_pos (by omega), rdL _ _ h1, rdL _ _ h2, succ64 i (by omega)]
    · simp only [caesurakeep_Lists.l0]; rw [if_pos (by omega), if_pos (by omega), if_pos (by omega), rdL _ _ h1, rdL _ _ h2, succ64 i (by omega)]
  · rw [ne_len h]; exact Ev.neg (by omega) (Ev.now _)
theorem tlists_ev (a b : List (List Int)) (z : Int) (hl : a.length ≤ 1000000000000) (hr : ∀ x ∈ a, x.length ≤ 1000000000000) : Ev (fun k => slices_EqualFunc_int_int_int_int__table_Same_1.f k a b z) (decide (a = b)) := by
  unfold slices_EqualFunc_int_int_int_int__table_Same_1.f
  by_cases h : a.length = b.length
  · refine Ev.pos (by omega) ?_
    refine eq_loop a b (fun k i => slices_EqualFunc_int_int_int_int__table_Same_1.l0 k b a (a.length : Int) (i : Int)) h (fun i hi => Ev.step (f := fun _ => some true) (fun k => ?_) (Ev.now _))
      (fun i h1 h2 he r hr' => Ev.step (f := fun k => (table_Same_1.f k a[i] b[i]).bind fun t => if t = true then slices_EqualFunc_int_int_int_int__table_Same_1.l0 k b a (a.length : Int) ((i + 1 : Nat) : Int) else some false) (fun k => ?_) (Ev.bind (same1_ev a[i] b[i] (hr _ (List.getElem_mem h1))) (Ev.pos (decide_eq_true he) hr')))
      (fun i h1 h2 he => Ev.step (f := fun k => (table_Same_1.f k a[i] b[i]).bind fun t => if t = true then slices_EqualFunc_int_int_int_int__table_Same_1.l0 k b a (a.length : Int) ((i + 1 : Nat) : Int) else some false) (fun k => ?_) (Ev.bind (same1_ev a[i] b[i] (hr _ (List.getElem_mem h1))) (Ev.neg (by simpa using he) (Ev.now _))))
    · simp only [slices_EqualFunc_int_int_int_int__table_Same_1.l0]; rw [if_neg (by omega)]
    · simp only [slices_EqualFunc_int_int_int_int__table_Same_1.l0]; rw [if_pos (by omega), if_pos (by omega), if_pos (by omega), if_pos (by omega), rdL _ _ h1, rdL _ _ h2, succ64 i (by omega)]
    · simp only [slices_EqualFunc_int_int_int_int__table_Same_1.l0]; rw [if_pos (by omega), if_pos (by omega), if_pos (by omega), if_pos (by omega), rdL _ _ h1, rdL _ _ h2, succ64 i (by omega)]
  · rw [ne_len h]; exact Ev.neg (by omega) (Ev.now _)
def eqS (C : Int) (b : List Ba) (n : List (List Int)) (r : List Bool) (C' : Int) (b' : List Ba) (n' : List (List Int)) (r' : List Bool) : Bool := decide (C = C' ∧ b = b' ∧ n = n' ∧ r = r')
theorem ktable_ev (C : Int) (b : List Ba) (n : List (List Int)) (r : List Bool) (C' : Int) (b' : List Ba) (n' : List (List Int)) (r' : List Bool) (h1 : b.length ≤ 1000000000000) (h2 : n.length ≤ 1000000000000) (h3 : ∀ x ∈ n, x.length ≤ 1000000000000) (h4 : r.length ≤ 1000000000000) :
    Ev (fun k => caesurakeep_Table.f k C b n r C' b' n' r') (eqS C b n r C' b' n' r') := by
  unfold caesurakeep_Table.f eqS
  by_cases hc : C = C'
  case neg => rw [decide_eq_false (fun h => hc h.1)]; exact Ev.neg hc (Ev.now _)
  refine Ev.pos hc (Ev.bind (kbands_ev b b' h1) ?_)
  by_cases hb : b = b'
  case neg => rw [decide_eq_false hb, decide_eq_false (fun h => hb h.2.1)]; exact Ev.neg (by decide) (Ev.now _)
  refine Ev.pos (decide_eq_true hb) (Ev.bind (klists_ev n n' h2 h3) ?_)
  by_cases hn : n = n'
  case neg => rw [decide_eq_false hn, decide_eq_false (fun h => hn h.2.2.1)]; exact Ev.neg (by decide) (Ev.now _)
  refine Ev.pos (decide_eq_true hn) (Ev.bind (kbools_ev r r' h4) ?_)
  rw [show decide (C = C' ∧ b = b' ∧ n = n' ∧ r = r') = decide (r = r') by simp [hc, hb, hn]]
  exact Ev.now _
theorem same_ev (C : Int) (b : List Ba) (n : List (List Int)) (r : List Bool) (C' : Int) (b' : List Ba) (n' : List (List Int)) (r' : List Bool) (h1 : b.length ≤ 1000000000000) (h2 : n.length ≤ 1000000000000) (h3 : ∀ x ∈ n, x.length ≤ 1000000000000) (h4 : r.length ≤ 1000000000000) :
    Ev (fun k => table_Same.f k C b n r C' b' n' r') (eqS C b n r C' b' n' r') := by
  unfold table_Same.f eqS
  by_cases hc : C = C'
  case neg => rw [decide_eq_false (fun h => hc h.1)]; exact Ev.neg hc (Ev.now _)
  refine Ev.pos hc (Ev.bind (tbands_ev b b' h1) ?_)
  by_cases hb : b = b'
  case neg => rw [decide_eq_false hb, decide_eq_false (fun h => hb h.2.1)]; exact Ev.neg (by decide) (Ev.now _)
  refine Ev.pos (decide_eq_true hb) (Ev.bind (tbools_ev r r' h4) ?_)
  by_cases hn : r = r'
  case neg => rw [decide_eq_false hn, decide_eq_false (fun h => hn h.2.2.2)]; exact Ev.neg (by decide) (Ev.now _)
  refine Ev.pos (decide_eq_true hn) (Ev.bind (tlists_ev n n' _ h2 h3) ?_)
  rw [show decide (C = C' ∧ b = b' ∧ n = n' ∧ r = r') = decide (n = n') by simp [hc, hb, hn]]
  exact Ev.now _
end Go.Proofs.Ytpcbhghgommijaa.XTabEq
end
section
namespace Go.Proofs.Ytpcbhghgommijaa.XWakes06
open Go Go.RowKit Go.Proofs.Ytpcbhghgommijaa.X Go.Proofs.Ytpcbhghgommijaa.XPure Go.Proofs.Ytpcbhghgommijaa.XPack Go.Proofs.Ytpcbhghgommijaa.XTable Go.Proofs.Ytpcbhghgommijaa.XTabEq Go.Proofs.YtpcbhghgommijaaW.PrintWords Go.Proofs.YtpcbhghgommijaaW.PrintLast Go.Proofs.YtpcbhghgommijaaW.PrintMore
set_option linter.unusedVariables false
set_option linter.unusedSimpArgs false
set_option maxHeartbeats 1000000
theorem is_bits2 : IsBits [false, true] [2] := by
  refine ⟨rfl, by decide, fun j => ?_⟩
  by_cases h : j < 8
  · have : ∀ j, j < 8 → bitAt [2] j = [false, true].getD j false := by decide
    exact this j h
  · rw [bitAt_out _ _ (by simp; omega)]
    simp only [List.getD]
    rw [List.getElem?_eq_none (by simp; omega)]
    rfl
def wb : List Ba := [⟨0, 0⟩, ⟨65827, 1⟩]
def wn : List (List Int) := [[0, 1], [1, 0]]
def we : List Int := encB 2 wb wn [2]
theorem we_dec : decS we = (2, wb, wn, [false, true], 0) := by decide +kernel
theorem we_bytes : ∀ x ∈ we, 0 ≤ x ∧ x < 256 := by decide +kernel
theorem we_len : we.length = 24 := by decide +kernel
theorem we_at : rd we 0 = 66 ∧ rd we 4 = 2 ∧ rd we 11 = 1 ∧ rd we 12 = 1 ∧ rd we 13 = 35 ∧ rd we 14 = 1 ∧ rd we 19 = 2 := by decide +kernel
theorem wakes : Ev (fun k => caesuralaw06_wakes.f k) true := by
  have hm : mayS 2 wb wn [false, true] = true := by decide
  obtain ⟨bits, hbits, he⟩ := (enc_ev 2 wb wn [false, true] (by decide) (by decide) (by decide)).2 hm
  obtain rfl : bits = [2] := bits_one hbits is_bits2
  have hd := dec_ev we we_bytes (by rw [we_len]; decide)
  rw [we_dec] at hd
  have hd0 := dec_ev [] (by simp) (by decide)
  have hd20 := dec_ev (List.replicate 20 0) (by decide) (by decide)
  have hs := same_ev 2 wb wn [false, true] 2 wb wn [false, true] (by decide) (by decide) (by decide) (by decide)
  have hk := ktable_ev 2 wb wn [false, true] 2 wb wn [false, true] (by decide) (by decide) (by decide) (by decide)
  have hq : eqS 2 wb wn [false, true] 2 wb wn [false, true] = true := by simp [eqS]
  rw [hq] at hs hk
  obtain ⟨a0, a4, a11, a12, a13, a14, a19⟩ := we_at
  have hl := we_len
  unfold caesuralaw06_wakes.f
  refine Ev.bindc rfl (Ev.bindc rfl (Ev.bindc rfl (Ev.bind he (Ev.bind hd (Ev.bind hd0 (Ev.pos (by decide) (Ev.bind hd20 ?_)))))))
  show Ev (fun k => if true = true then (if (we.length : Int) = 24 then _ else _) else _) true
  rw [hl]
  refine Ev.pos rfl (Ev.pos rfl (Ev.bindc (tlen_eq 2 2 2) (Ev.pos (by decide) (Ev.pos (by decide) (Ev.pos a0 (Ev.pos (by decide) (Ev.pos a4 (Ev.pos (by decide) (Ev.pos a11 (Ev.pos (by decide) (Ev.pos a12 (Ev.pos (by decide) (Ev.pos a13 (Ev.pos (by decide) (Ev.pos a14 (Ev.pos (by decide) (Ev.pos a19 (Ev.pos rfl (Ev.bind hs (Ev.pos rfl (Ev.bind hk (Ev.pos rfl ?_))))))))))))))))))))))
  refine Ev.pos (by decide) ?_
  exact Ev.now _
end Go.Proofs.Ytpcbhghgommijaa.XWakes06
end
section
namespace Go.Proofs.Ytpcbhghgommijaa.XTabLaw
open Go Go.RowKit Go.Proofs.Ytpcbhghgommijaa.X Go.Proofs.Ytpcbhghgommijaa.XPure Go.Proofs.Ytpcbhghgommijaa.XPack Go.Proofs.Ytpcbhghgommijaa.XTable Go.Proofs.Ytpcbhghgommijaa.XTabEq Go.Proofs.YtpcbhghgommijaaW.PrintWords Go.Proofs.YtpcbhghgommijaaW.PrintLast Go.Proofs.YtpcbhghgommijaaW.PrintMore
set_option linter.unusedVariables false
set_option linter.unusedSimpArgs false
set_option maxHeartbeats 1000000
theorem large_loop (xs : List (List Int)) (hl : xs.length ≤ 9223372036854775807) : ∀ (d i : Nat) (a : Int), i + d = xs.length → 0 ≤ a ∧ a ≤ 10000 →
    ∃ r, Ev (fun k => caesurakeep_LargeLists.l0 k xs 3000 a (i : Int)) r ∧ (r = false → a + d ≤ 3000 ∧ ∀ x ∈ xs.drop i, (x.length : Int) ≤ 3000) := by
  intro d
  induction d with
  | zero =>
    intro i a hi ha
    refine ⟨decide (a > 3000), Ev.step (f := fun _ => some (decide (a > 3000))) (fun k => ?_) (Ev.now _), fun h => ⟨by have := of_decide_eq_false h; omega, ?_⟩⟩
    · simp only [caesurakeep_LargeLists.l0]; rw [if_neg (by omega)]
    · rw [List.drop_of_length_le (by omega)]; simp
  | succ d ih =>
    intro i a hi ha
    have hlt : i < xs.length := by omega
    by_cases h3 : a ≤ 3000
    · have hm : mn (xs[i].length : Int) 3000 = min (xs[i].length : Int) 3000 := mn_eq _ _
      have hw : wrap64 (a + wrap64 (1 + mn (xs[i].length : Int) 3000)) = a + (1 + min (xs[i].length : Int) 3000) := by rw [hm, w64 (n := 1 + min (xs[i].length : Int) 3000) (by omega) (by omega), w64 (by omega) (by omega)]
      obtain ⟨r, hr, hq⟩ := ih (i + 1) (a + (1 + min (xs[i].length : Int) 3000)) (by omega) (by omega)
      refine ⟨r, Ev.step (fun k => ?_) hr, fun h => ?_⟩
      · simp only [caesurakeep_LargeLists.l0]
        rw [if_pos (by omega), if_pos h3, if_pos (by omega), rdL _ _ hlt, hw, w64 (n := (i : Int) + 1) (by omega) (by omega)]
        rfl
      · obtain ⟨h1, h2⟩ := hq h
        refine ⟨by omega, fun x hx => ?_⟩
        rw [drop_cons hlt] at hx
        rcases List.mem_cons.1 hx with rfl | hx
        · omega
        · exact h2 x hx
    · refine ⟨true, Ev.step (f := fun _ => some true) (fun k => ?_) (Ev.now _), fun h => by simp at h⟩
      simp only [caesurakeep_LargeLists.l0]
      rw [if_pos (by omega), if_neg h3, decide_eq_true (by omega)]
theorem large_ev (C : Int) (bands : List Ba) (next : List (List Int)) (brk : List Bool) (hl : next.length ≤ 9223372036854775807) :
    ∃ r, Ev (fun k => caesuralaw06_Large.f k C bands next brk) r ∧ (r = false → bands.length ≤ 400 ∧ next.length ≤ 3000 ∧ (∀ x ∈ next, x.length ≤ 3000) ∧ brk.length ≤ 1000) := by
  unfold caesuralaw06_Large.f caesurakeep_LargeLists.f
  by_cases h : (bands.length : Int) > 400
  · exact ⟨true, Ev.pos h (Ev.now _), fun h => by simp at h⟩
  obtain ⟨r, hr, hq⟩ := large_loop next hl next.length 0 0 (by omega) (by omega)
  cases r with
  | true => exact ⟨true, Ev.neg h (Ev.bind hr (Ev.pos rfl (Ev.now _))), fun h => by simp at h⟩
  | false =>
    refine ⟨decide ((brk.length : Int) > 1000), Ev.neg h (Ev.bind hr (Ev.neg (by decide) (Ev.now _))), fun h' => ?_⟩
    obtain ⟨h1, h2⟩ := hq rfl
    rw [List.drop_zero] at h2
    have := of_decide_eq_false h'
    exact ⟨by omega, by omega, fun x hx => by have := h2 x hx; omega, by omega⟩
theorem flat_len {α : Type} (f : α → List Int) (n : Nat) : ∀ (l : List α), (∀ x ∈ l, (f x).length = n) → (l.flatMap f).length = l.length * n
  | [], _ => by simp
  | x :: l, h => by
    rw [List.flatMap_cons, List.length_append, h x (by simp), flat_len f n l (fun y hy => h y (by simp [hy])), List.length_cons, Nat.add_mul, Nat.one_mul]
    omega
theorem flat_drop {α : Type} (f : α → List Int) (n : Nat) : ∀ (i : Nat) (l : List α), (∀ x ∈ l, (f x).length = n) → (l.flatMap f).drop (i * n) = (l.drop i).flatMap f
  | 0, l, _ => by simp
  | i + 1, [], _ => by simp
  | i + 1, x :: l, h => by
    rw [List.flatMap_cons, List.drop_succ_cons, ← flat_drop f n i l (fun y hy => h y (by simp [hy])), Nat.add_mul, Nat.one_mul, List.drop_append, List.drop_of_length_le (by rw [h x (by simp)]; omega), List.nil_append, h x (by simp)]
    congr 1
    omega
theorem lows_id (l : List Int) (h : ∀ n ∈ l, 0 ≤ n ∧ n ≤ 255) : lows l = l := by
  conv => rhs; rw [← List.map_id l]
  refine List.map_congr_left (fun n hn => ?_)
  have := h n hn
  show n % 256 = n
  omega
structure IsTab (C : Int) (bands : List Ba) (next : List (List Int)) (brk : List Bool) (bits : List Int) : Prop where
  may : mayS C bands next brk = true
  bit : IsBits brk bits
variable {C : Int} {bands : List Ba} {next : List (List Int)} {brk : List Bool} {bits : List Int}
def coreB (C : Int) (bands : List Ba) (next : List (List Int)) (bits : List Int) : List Int := headB C next.length bands.length ++ bands.flatMap bandB ++ next.flatMap lows ++ bits
theorem encB_core (C : Int) (bands : List Ba) (next : List (List Int)) (bits : List Int) : encB C bands next bits = putS (coreB C bands next bits) (sumS (coreB C bands next bits)) 4 := rfl
theorem IsTab.core_bytes (h : IsTab C bands next brk bits) : ∀ x ∈ coreB C bands next bits, 0 ≤ x ∧ x < 256 := by
  obtain ⟨h1, h2, h3⟩ := may_iff.1 h.may
  refine app_bytes (app_bytes (app_bytes ?_ ?_) ?_) h.bit.bytes
  · intro x hx
    simp only [headB, List.mem_cons, List.not_mem_nil, or_false] at hx
    omega
  · intro x hx
    obtain ⟨b, _, hb⟩ := List.mem_flatMap.1 hx
    exact bandB_bytes b x hb
  · intro x hx
    obtain ⟨b, _, hb⟩ := List.mem_flatMap.1 hx
    exact lows_bytes b x hb
theorem IsTab.rows (h : IsTab C bands next brk bits) : ∀ x ∈ next, (lows x).length = C.toNat := by
  intro x hx
  have := ((may_iff.1 h.may).2.2 x hx).1
  rw [lows, List.length_map]
  omega
theorem IsTab.core_len (h : IsTab C bands next brk bits) : (coreB C bands next bits).length = 7 + 4 * bands.length + next.length * C.toNat + (next.length + 7) / 8 := by
  obtain ⟨h1, h2, h3⟩ := may_iff.1 h.may
  have e1 := flat_len bandB 4 bands (fun x _ => bandB_len x)
  have e2 := flat_len lows C.toNat next h.rows
  have e3 := h.bit.len
  have e4 : (headB C next.length bands.length).length = 7 := rfl
  unfold coreB
  rw [List.length_append, List.length_append, List.length_append, e1, e2, e3, e4, h1.2.2.2.2.1]
  omega
theorem IsTab.bytes (h : IsTab C bands next brk bits) : ∀ x ∈ encB C bands next bits, 0 ≤ x ∧ x < 256 := put_bytes _ _ _ h.core_bytes
theorem IsTab.len (h : IsTab C bands next brk bits) : (encB C bands next bits).length = 11 + 4 * bands.length + next.length * C.toNat + (next.length + 7) / 8 := by
  rw [encB_core, put4_len, h.core_len]; omega
theorem IsTab.small (h : IsTab C bands next brk bits) : (encB C bands next bits).length ≤ 70000 := by
  obtain ⟨h1, h2, h3⟩ := may_iff.1 h.may
  have : next.length * C.toNat ≤ 255 * 255 := Nat.mul_le_mul (by omega) (by omega)
  rw [h.len]; omega
theorem IsTab.lenS (h : IsTab C bands next brk bits) : lenS C next.length bands.length = ((encB C bands next bits).length : Int) := by
  obtain ⟨h1, h2, h3⟩ := may_iff.1 h.may
  have e : C * (next.length : Int) = ((next.length * C.toNat : Nat) : Int) := by rw [Nat.mul_comm]; simp only [Int.natCast_mul]; rw [Int.toNat_of_nonneg (by omega)]
  unfold XTable.lenS
  rw [if_pos (by omega), h.len, e]
  omega
theorem sealed_put (a : List Int) (v : Int) (hv : 0 ≤ v ∧ v < 4294967296) : sealedS (putS a v 4) = (v == sumS a) := by
  unfold sealedS
  have e : ((putS a v 4).length : Int) - 4 = (a.length : Int) := by rw [put4_len]; omega
  have g : getS (putS a v 4) (a.length : Int) 4 = (v % 2 ^ (8 * 4), true) := by
    have := get_put a [] v 4 (by omega) (by omega)
    rw [List.append_nil] at this
    exact this
  have e2 : (putS a v 4).take a.length = a := by unfold putS; rw [List.take_left]
  have e3 : v % 2 ^ (8 * 4) % 4294967296 = v := by omega
  rw [e, g, put4_len, show a.length + 4 - 4 = a.length by omega, e2]
  show (v % 2 ^ (8 * 4) % 4294967296 == sumS a) = _
  rw [e3]
theorem IsTab.sealed (h : IsTab C bands next brk bits) : sealedS (encB C bands next bits) = true := by
  have := sum_bd (coreB C bands next bits) 2166136261 (by omega)
  rw [encB_core, sealed_put _ (sumS (coreB C bands next bits)) this]; simp
theorem enc_shape (C : Int) (bands : List Ba) (next : List (List Int)) (bits : List Int) : ∃ tail : List Int, tail.length = 4 ∧ encB C bands next bits = headB C next.length bands.length ++ (bands.flatMap bandB ++ (next.flatMap lows ++ (bits ++ tail))) := by
  refine ⟨putS [] (sumS (coreB C bands next bits)) 4, by rw [put4_len]; rfl, ?_⟩
  rw [encB_core, putS_app]
  unfold coreB
  simp only [List.append_assoc]
theorem band_at (h : IsTab C bands next brk bits) (i : Nat) (hi : i < bands.length) : bandAt (encB C bands next bits) i = bands[i] := by
  obtain ⟨tail, ht, e⟩ := enc_shape C bands next bits
  obtain ⟨h1, h2, h3⟩ := may_iff.1 h.may
  have hb := h2 _ (List.getElem_mem hi)
  have hd : (encB C bands next bits).drop (7 + 4 * i) = bandB bands[i] ++ ((bands.drop (i + 1)).flatMap bandB ++ (next.flatMap lows ++ (bits ++ tail))) := by
    rw [e, ← List.drop_drop, show (7 : Nat) = (headB C next.length bands.length).length from rfl, List.drop_left, Nat.mul_comm, List.drop_append_of_le_length (by rw [flat_len bandB 4 bands (fun x _ => bandB_len x)]; omega), flat_drop bandB 4 i bands (fun x _ => bandB_len x), drop_cons hi, List.flatMap_cons, List.append_assoc]
  have h3l : (putS [] bands[i].f0 3).length = 3 := by rw [put3_len]; rfl
  refine ba_ext ?_ ?_
  · show be 0 (((encB C bands next bits).drop (7 + 4 * i)).take 3) = _
    rw [hd, bandB, List.append_assoc, List.take_append_of_le_length (by omega), List.take_of_length_le (by omega)]
    have := be_put bands[i].f0 3 (by omega) (by omega)
    have e2 : putS [] bands[i].f0 3 = [bands[i].f0 / 16777216 % 256, bands[i].f0 / 65536 % 256, bands[i].f0 / 256 % 256, bands[i].f0 % 256].drop (4 - 3) := rfl
    rw [e2, this]
    omega
  · show (encB C bands next bits).getD (10 + 4 * i) 0 = _
    have e3 : (encB C bands next bits).getD (10 + 4 * i) 0 = ((encB C bands next bits).drop (7 + 4 * i)).getD 3 0 := by
      simp only [List.getD, List.getElem?_drop]; rw [show 7 + 4 * i + 3 = 10 + 4 * i by omega]
    rw [e3, hd, bandB, List.append_assoc]
    simp only [List.getD]
    rw [List.getElem?_append_right (by omega), h3l]
    show bands[i].f1 % 256 = _
    omega
theorem row_at (h : IsTab C bands next brk bits) (i : Nat) (hi : i < next.length) : trowAt (encB C bands next bits) (7 + 4 * bands.length) C.toNat i = next[i] := by
  obtain ⟨tail, ht, e⟩ := enc_shape C bands next bits
  obtain ⟨h1, h2, h3⟩ := may_iff.1 h.may
  have hr := h3 _ (List.getElem_mem hi)
  have hl := h.rows _ (List.getElem_mem hi)
  have h4 : (bands.flatMap bandB).length = 4 * bands.length := by rw [flat_len bandB 4 bands (fun x _ => bandB_len x)]; omega
  have hle : i * C.toNat ≤ next.length * C.toNat := Nat.mul_le_mul_right _ (by omega)
  have hd : (encB C bands next bits).drop (7 + 4 * bands.length + i * C.toNat) = lows next[i] ++ ((next.drop (i + 1)).flatMap lows ++ (bits ++ tail)) := by
    rw [e, ← List.drop_drop, ← List.drop_drop, show (7 : Nat) = (headB C next.length bands.length).length from rfl, List.drop_left, ← h4, List.drop_left, List.drop_append_of_le_length (by rw [flat_len lows C.toNat next h.rows]; exact hle), flat_drop lows C.toNat i next h.rows, drop_cons hi, List.flatMap_cons, List.append_assoc]
  unfold trowAt
  rw [hd, List.take_append_of_le_length (by omega), List.take_of_length_le (by omega)]
  exact lows_id _ hr.2
theorem bits_at (h : IsTab C bands next brk bits) : ((encB C bands next bits).take ((encB C bands next bits).length - 4)).drop (7 + 4 * bands.length + next.length * C.toNat) = bits := by
  have h4 : (bands.flatMap bandB).length = 4 * bands.length := by rw [flat_len bandB 4 bands (fun x _ => bandB_len x)]; omega
  have h5 : (next.flatMap lows).length = next.length * C.toNat := flat_len lows C.toNat next h.rows
  have e : (encB C bands next bits).take ((encB C bands next bits).length - 4) = coreB C bands next bits := by
    rw [encB_core, put4_len, show (coreB C bands next bits).length + 4 - 4 = (coreB C bands next bits).length by omega]
    unfold putS
    rw [List.take_left]
  rw [e]
  unfold coreB
  have h7 : (headB C next.length bands.length ++ bands.flatMap bandB ++ next.flatMap lows).length = 7 + 4 * bands.length + next.length * C.toNat := by
    rw [List.length_append, List.length_append, h4, h5]; rfl
  rw [← h7, List.drop_left]
theorem head_at (C : Int) (bands : List Ba) (next : List (List Int)) (bits : List Int) : (encB C bands next bits).take 4 = [66, 82, 75, 49] ∧ (encB C bands next bits).getD 4 0 = C % 256 ∧ (encB C bands next bits).getD 5 0 = (next.length : Int) % 256 ∧ (encB C bands next bits).getD 6 0 = (bands.length : Int) % 256 := by
  obtain ⟨tail, ht, e⟩ := enc_shape C bands next bits
  rw [e]
  exact ⟨rfl, rfl, rfl, rfl⟩
def mayDec (C : Int) (bands : List Ba) (next : List (List Int)) : Bool := decide (C ≤ 8 ∧ next.length ≤ 5 ∧ 1 ≤ bands.length ∧ bands.length ≤ 60)
theorem dec_enc (h : IsTab C bands next brk bits) : decS (encB C bands next bits) = if mayDec C bands next = true then (C, bands, next, brk, 0) else errS 24 := by
  obtain ⟨h1, h2, h3⟩ := may_iff.1 h.may
  obtain ⟨m0, m4, m5, m6⟩ := head_at C bands next bits
  have e4 : C % 256 = C := by omega
  have e5 : (next.length : Int) % 256 = next.length := by omega
  have e6 : (bands.length : Int) % 256 = bands.length := by omega
  rw [e4] at m4; rw [e5] at m5; rw [e6] at m6
  have hl := h.len
  unfold decS
  rw [if_neg (by omega), if_neg (fun hn => hn m0), if_neg (by rw [h.sealed]; decide)]
  have hc : countsOk (encB C bands next bits) = mayDec C bands next := by
    unfold countsOk mayDec
    rw [m4, m5, m6, h.lenS]
    apply decide_eq_decide.2
    omega
  rw [hc]
  cases hm : mayDec C bands next with
  | false => rfl
  | true =>
    rw [if_neg (by decide), if_pos rfl, m4, m5, m6, Int.toNat_natCast, Int.toNat_natCast]
    unfold bodyS
    rw [bits_at h]
    have hu := unbits_bits h.bit
    rw [h1.2.2.2.2.1] at hu
    rw [hu, if_pos rfl]
    have ea : (List.range bands.length).map (bandAt (encB C bands next bits)) = bands := by
      apply List.ext_getElem (by simp)
      intro i h1 h2
      rw [List.getElem_map, List.getElem_range]
      exact band_at h i h2
    have eb : (List.range next.length).map (trowAt (encB C bands next bits) (7 + 4 * bands.length) C.toNat) = next := by
      apply List.ext_getElem (by simp)
      intro i h1 h2
      rw [List.getElem_map, List.getElem_range]
      exact row_at h i h2
    rw [ea, eb, Int.toNat_of_nonneg (by omega)]
end Go.Proofs.Ytpcbhghgommijaa.XTabLaw
end
section
namespace Go.Proofs.Ytpcbhghgommijaa.XSum
open Go Go.RowKit Go.Proofs.Ytpcbhghgommijaa.X Go.Proofs.Ytpcbhghgommijaa.XPure Go.Proofs.Ytpcbhghgommijaa.XPack Go.Proofs.YtpcbhghgommijaaW.PrintWords Go.Proofs.YtpcbhghgommijaaW.PrintLast Go.Proofs.YtpcbhghgommijaaW.PrintMore
set_option linter.unusedVariables false
set_option linter.unusedSimpArgs false
set_option maxHeartbeats 1000000
theorem rot_inj (x y : Int) (hx : 0 ≤ x ∧ x < 4294967296) (hy : 0 ≤ y ∧ y < 4294967296) (h : rot x = rot y) : x = y := by
  have e1 : x * 32 % 4294967296 = (x % 134217728) * 32 := by omega
  have e2 : y * 32 % 4294967296 = (y % 134217728) * 32 := by omega
  unfold rot at h
  rw [e1, e2] at h
  omega
theorem xor_l {a b c : Nat} (h : a ^^^ c = b ^^^ c) : a = b := by
  have := congrArg (· ^^^ c) h
  simpa [Nat.xor_assoc] using this
theorem xor_r {a b c : Nat} (h : c ^^^ a = c ^^^ b) : a = b := by
  rw [Nat.xor_comm c a, Nat.xor_comm c b] at h
  exact xor_l h
theorem xr_inj (s s' c : Int) (hs : 0 ≤ s) (hs' : 0 ≤ s') (h : xr s c = xr s' c) : s = s' := by
  unfold xr at h
  have h1 : s.toNat ^^^ c.toNat = s'.toNat ^^^ c.toNat := by omega
  have h2 := xor_l h1
  omega
theorem xr_inj2 (s c c' : Int) (hc : 0 ≤ c) (hc' : 0 ≤ c') (h : xr s c = xr s c') : c = c' := by
  unfold xr at h
  have h1 : s.toNat ^^^ c.toNat = s.toNat ^^^ c'.toNat := by omega
  have h2 := xor_r h1
  omega
theorem step_inj (s s' c : Int) (hs : 0 ≤ s ∧ s < 4294967296) (hs' : 0 ≤ s' ∧ s' < 4294967296) (hc : 0 ≤ c ∧ c < 256) (h : sumStep s c = sumStep s' c) : s = s' := by
  have b1 := xr_bd s c hs (by omega)
  have b2 := xr_bd s' c hs' (by omega)
  have r1 := rot_bd _ b1
  have r2 := rot_bd _ b2
  unfold sumStep at h
  exact xr_inj s s' c hs.1 hs'.1 (rot_inj _ _ b1 b2 (by omega))
theorem step_inj2 (s c c' : Int) (hs : 0 ≤ s ∧ s < 4294967296) (hc : 0 ≤ c ∧ c < 256) (hc' : 0 ≤ c' ∧ c' < 256) (h : sumStep s c = sumStep s c') : c = c' := by
  have b1 := xr_bd s c hs (by omega)
  have b2 := xr_bd s c' hs (by omega)
  have r1 := rot_bd _ b1
  have r2 := rot_bd _ b2
  unfold sumStep at h
  exact xr_inj2 s c c' hc.1 hc'.1 (rot_inj _ _ b1 b2 (by omega))
theorem fold_inj (l : List Int) (hl : ∀ x ∈ l, 0 ≤ x ∧ x < 256) : ∀ s s' : Int, (0 ≤ s ∧ s < 4294967296) → (0 ≤ s' ∧ s' < 4294967296) → l.foldl sumStep s = l.foldl sumStep s' → s = s' := by
  induction l with
  | nil => intro s s' _ _ h; exact h
  | cons c l ih =>
    intro s s' hs hs' h
    exact step_inj s s' c hs hs' (hl c (by simp)) (ih (fun x hx => hl x (by simp [hx])) _ _ (step_bd _ _) (step_bd _ _) h)
theorem sum_set (l : List Int) (hl : ∀ x ∈ l, 0 ≤ x ∧ x < 256) (i : Nat) (hi : i < l.length) (c : Int) (hc : 0 ≤ c ∧ c < 256) : sumS l = sumS (l.set i c) ↔ c = l[i] := by
  have e1 : l = l.take i ++ l[i] :: l.drop (i + 1) := by rw [← drop_cons hi, List.take_append_drop]
  have e2 : l.set i c = l.take i ++ c :: l.drop (i + 1) := List.set_eq_take_append_cons_drop.trans (if_pos hi)
  have hx := hl _ (List.getElem_mem hi)
  constructor
  · intro h
    rw [e2] at h
    unfold sumS at h
    conv at h => lhs; rw [e1]
    rw [List.foldl_append, List.foldl_append, List.foldl_cons, List.foldl_cons] at h
    have b := sum_bd (l.take i) 2166136261 (by omega)
    exact (step_inj2 _ _ _ b hx hc (fold_inj _ (fun x hx => hl x (List.mem_of_mem_drop hx)) _ _ (step_bd _ _) (step_bd _ _) h)).symm
  · intro h
    rw [h, List.set_getElem_self]
theorem xor_byte (x y : Int) (hx : 0 ≤ x ∧ x < 256) (hy : 0 ≤ y ∧ y < 256) : 0 ≤ Go.bits .xor .u8 x y ∧ Go.bits .xor .u8 x y < 256 ∧ (Go.bits .xor .u8 x y = x ↔ y = 0) := by
  have e := nu8_xor x.toNat y.toNat (by omega) (by omega)
  rw [Int.toNat_of_nonneg hx.1, Int.toNat_of_nonneg hy.1] at e
  have h2 : x.toNat ^^^ y.toNat < 2 ^ 8 := Nat.xor_lt_two_pow (by omega) (by omega)
  rw [e]
  refine ⟨by omega, by omega, fun h => ?_, fun h => ?_⟩
  · have h3 : x.toNat ^^^ y.toNat = x.toNat ^^^ 0 := by rw [Nat.xor_zero]; omega
    have h4 := xor_r h3
    omega
  · subst h
    simp
    omega
end Go.Proofs.Ytpcbhghgommijaa.XSum
end
section
namespace Go.Proofs.Ytpcbhghgommijaa.XTabBack
open Go Go.RowKit Go.Proofs.Ytpcbhghgommijaa.X Go.Proofs.Ytpcbhghgommijaa.XPure Go.Proofs.Ytpcbhghgommijaa.XPack Go.Proofs.Ytpcbhghgommijaa.XSum Go.Proofs.Ytpcbhghgommijaa.XTable Go.Proofs.Ytpcbhghgommijaa.XTabEq Go.Proofs.Ytpcbhghgommijaa.XTabLaw Go.Proofs.YtpcbhghgommijaaW.PrintWords Go.Proofs.YtpcbhghgommijaaW.PrintLast Go.Proofs.YtpcbhghgommijaaW.PrintMore
set_option linter.unusedVariables false
set_option linter.unusedSimpArgs false
set_option maxHeartbeats 1000000
theorem len4 {l : List Int} (h : l.length = 4) : ∃ a b c d, l = [a, b, c, d] := by
  match l, h with
  | [a, b, c, d], _ => exact ⟨a, b, c, d, rfl⟩
theorem len3 {l : List Int} (h : l.length = 3) : ∃ a b c, l = [a, b, c] := by
  match l, h with
  | [a, b, c], _ => exact ⟨a, b, c, rfl⟩
theorem be4 (a b c d : Int) : be 0 [a, b, c, d] = a * 16777216 + b * 65536 + c * 256 + d := by simp only [be_cons, be_nil]; omega
theorem be3 (a b c : Int) : be 0 [a, b, c] = a * 65536 + b * 256 + c := by simp only [be_cons, be_nil]; omega
theorem put_be4 (l : List Int) (h : l.length = 4) (hb : ∀ x ∈ l, 0 ≤ x ∧ x < 256) : putS [] (be 0 l) 4 = l := by
  obtain ⟨a, b, c, d, rfl⟩ := len4 h
  have h1 := hb a (by simp)
  have h2 := hb b (by simp)
  have h3 := hb c (by simp)
  have h4 := hb d (by simp)
  rw [be4]
  show [_, _, _, _] = [_, _, _, _]
  simp only [List.cons.injEq, and_true]
  omega
theorem put_be3 (l : List Int) (h : l.length = 3) (hb : ∀ x ∈ l, 0 ≤ x ∧ x < 256) : putS [] (be 0 l) 3 = l := by
  obtain ⟨a, b, c, rfl⟩ := len3 h
  have h1 := hb a (by simp)
  have h2 := hb b (by simp)
  have h3 := hb c (by simp)
  rw [be3]
  show [_, _, _] = [_, _, _]
  simp only [List.cons.injEq, and_true]
  omega
theorem be4_bd (l : List Int) (h : l.length = 4) (hb : ∀ x ∈ l, 0 ≤ x ∧ x < 256) : 0 ≤ be 0 l ∧ be 0 l < 4294967296 := by
  obtain ⟨a, b, c, d, rfl⟩ := len4 h
  have h1 := hb a (by simp)
  have h2 := hb b (by simp)
  have h3 := hb c (by simp)
  have h4 := hb d (by simp)
  rw [be4]; omega
theorem sealed_eq (l : List Int) (hb : ∀ x ∈ l, 0 ≤ x ∧ x < 256) (h : 4 ≤ l.length) : sealedS l = (be 0 (l.drop (l.length - 4)) == sumS (l.take (l.length - 4))) := by
  have hd : (l.drop (l.length - 4)).length = 4 := by rw [List.length_drop]; omega
  have g : getS l ((l.length : Int) - 4) 4 = (be 0 (l.drop (l.length - 4)), true) := by
    unfold getS
    rw [if_pos (by unfold getOk; exact decide_eq_true (by omega)), show ((l.length : Int) - 4).toNat = l.length - 4 by omega, List.take_of_length_le (by rw [hd]; decide)]
  have hbd := be4_bd _ hd (fun x hx => hb x (List.mem_of_mem_drop hx))
  unfold sealedS
  rw [g]
  show (be 0 (l.drop (l.length - 4)) % 4294967296 == _) = _
  rw [show be 0 (l.drop (l.length - 4)) % 4294967296 = be 0 (l.drop (l.length - 4)) by omega]
theorem sealed_set (l : List Int) (hb : ∀ x ∈ l, 0 ≤ x ∧ x < 256) (h : 4 ≤ l.length) (hs : sealedS l = true) (i : Nat) (hi : i < l.length) (c : Int) (hc : 0 ≤ c ∧ c < 256) (hne : c ≠ l[i]) : sealedS (l.set i c) = false := by
  have hb' : ∀ x ∈ l.set i c, 0 ≤ x ∧ x < 256 := by
    intro x hx
    rcases List.mem_or_eq_of_mem_set hx with h | rfl
    · exact hb x h
    · exact hc
  rw [sealed_eq _ hb h] at hs
  rw [sealed_eq _ hb' (by rw [List.length_set]; exact h), List.length_set]
  have hs := beq_iff_eq.1 hs
  rw [beq_eq_false_iff_ne]
  by_cases hin : i < l.length - 4
  · have e1 : (l.set i c).drop (l.length - 4) = l.drop (l.length - 4) := List.drop_set_of_lt hin
    have e2 : (l.set i c).take (l.length - 4) = (l.take (l.length - 4)).set i c := List.take_set
    rw [e1, e2, hs]
    intro he
    have hlt : i < (l.take (l.length - 4)).length := by rw [List.length_take]; omega
    have := (sum_set (l.take (l.length - 4)) (fun x hx => hb x (List.mem_of_mem_take hx)) i hlt c hc).1 he
    rw [List.getElem_take] at this
    exact hne this
  · have e2 : (l.set i c).take (l.length - 4) = l.take (l.length - 4) := by rw [List.take_set, List.set_eq_of_length_le (by rw [List.length_take]; omega)]
    have e1 : (l.set i c).drop (l.length - 4) = (l.drop (l.length - 4)).set (i - (l.length - 4)) c := by rw [List.drop_set, if_neg hin]
    rw [e1, e2, ← hs]
    obtain ⟨a0, a1, a2, a3, ea⟩ := len4 (l := l.drop (l.length - 4)) (by rw [List.length_drop]; omega)
    have hbd : ∀ x ∈ l.drop (l.length - 4), 0 ≤ x ∧ x < 256 := fun x hx => hb x (List.mem_of_mem_drop hx)
    have hg : (l.drop (l.length - 4))[i - (l.length - 4)]? = some l[i] := by
      rw [List.getElem?_drop, show l.length - 4 + (i - (l.length - 4)) = i by omega, List.getElem?_eq_getElem hi]
    rw [ea] at hbd hg ⊢
    have h1 := hbd a0 (by simp)
    have h2 := hbd a1 (by simp)
    have h3 := hbd a2 (by simp)
    have h4 := hbd a3 (by simp)
    generalize l[i] = v at hg hne
    have hj : i - (l.length - 4) < 4 := by omega
    generalize i - (l.length - 4) = j at hg hj
    match j, hj with
    | 0, _ =>
      have : a0 = v := by simpa using hg
      show be 0 [c, a1, a2, a3] ≠ _
      rw [be4, be4]; omega
    | 1, _ =>
      have : a1 = v := by simpa using hg
      show be 0 [a0, c, a2, a3] ≠ _
      rw [be4, be4]; omega
    | 2, _ =>
      have : a2 = v := by simpa using hg
      show be 0 [a0, a1, c, a3] ≠ _
      rw [be4, be4]; omega
    | 3, _ =>
      have : a3 = v := by simpa using hg
      show be 0 [a0, a1, a2, c] ≠ _
      rw [be4, be4]; omega
theorem dec_unsealed (l : List Int) (h : 11 ≤ l.length) (hs : sealedS l = false) : (decS l).2.2.2.2 = 22 ∨ (decS l).2.2.2.2 = 23 := by
  unfold decS
  rw [if_neg (by omega)]
  by_cases hm : l.take 4 ≠ [66, 82, 75, 49]
  · rw [if_pos hm]; exact .inl rfl
  · rw [if_neg hm, if_pos hs]; exact .inr rfl
theorem take34 (l : List Int) (m : Nat) (h : m + 4 ≤ l.length) : (l.drop m).take 4 = (l.drop m).take 3 ++ [l.getD (m + 3) 0] := by
  have := List.take_add_one (l := l.drop m) (i := 3)
  rw [List.getElem?_drop, List.getElem?_eq_getElem (by omega)] at this
  rw [getD_lt (by omega)]
  exact this
theorem flat_bands (l : List Int) (hb : ∀ x ∈ l, 0 ≤ x ∧ x < 256) : ∀ n, 7 + 4 * n ≤ l.length → ((List.range n).map (bandAt l)).flatMap bandB = (l.drop 7).take (4 * n)
  | 0, _ => by simp
  | n + 1, h => by
    have e1 : bandB (bandAt l n) = (l.drop (7 + 4 * n)).take 4 := by
      have hl : ((l.drop (7 + 4 * n)).take 3).length = 3 := by rw [List.length_take, List.length_drop]; omega
      have h1 := put_be3 _ hl (fun x hx => hb x (List.mem_of_mem_drop (List.mem_of_mem_take hx)))
      have h2 := range_of l (fun x => 0 ≤ x ∧ x < 256) hb (by omega) (10 + 4 * n)
      show putS [] (be 0 ((l.drop (7 + 4 * n)).take 3)) 3 ++ [l.getD (10 + 4 * n) 0 % 256] = _
      rw [h1, show l.getD (10 + 4 * n) 0 % 256 = l.getD (10 + 4 * n) 0 by omega, take34 l (7 + 4 * n) (by omega), show 7 + 4 * n + 3 = 10 + 4 * n by omega]
    rw [List.range_succ, List.map_append, List.flatMap_append, flat_bands l hb n (by omega), List.map_singleton, List.flatMap_singleton, e1, show 4 * (n + 1) = 4 * n + 4 by omega, List.take_add, List.drop_drop]
theorem flat_rows (l : List Int) (hb : ∀ x ∈ l, 0 ≤ x ∧ x < 256) (at_ C : Nat) : ∀ s, ((List.range s).map (trowAt l at_ C)).flatMap lows = (l.drop at_).take (s * C)
  | 0 => by simp
  | s + 1 => by
    have e1 : lows (trowAt l at_ C s) = (l.drop (at_ + s * C)).take C := lows_id _ (fun n hn => by
      have := hb n (List.mem_of_mem_drop (List.mem_of_mem_take hn)); omega)
    rw [List.range_succ, List.map_append, List.flatMap_append, flat_rows l hb at_ C s, List.map_singleton, List.flatMap_singleton, e1, Nat.add_mul, Nat.one_mul, List.take_add, List.drop_drop]
theorem dec_cases (l : List Int) : (decS l).2.2.2.2 ≠ 0 → (decS l).1 = 0 ∧ (decS l).2.2.1 = [] := by
  unfold decS
  intro h
  split at h
  · rw [if_pos (by assumption)]; exact ⟨rfl, rfl⟩
  rw [if_neg (by assumption)]
  split at h
  · rw [if_pos (by assumption)]; exact ⟨rfl, rfl⟩
  rw [if_neg (by assumption)]
  split at h
  · rw [if_pos (by assumption)]; exact ⟨rfl, rfl⟩
  rw [if_neg (by assumption)]
  split at h
  · rw [if_pos (by assumption)]; exact ⟨rfl, rfl⟩
  rw [if_neg (by assumption)]
  unfold bodyS at h ⊢
  split at h
  · exact absurd rfl h
  · rw [if_neg (by assumption)]; exact ⟨rfl, rfl⟩
theorem sealed_last (l : List Int) (hb : ∀ x ∈ l, 0 ≤ x ∧ x < 256) (h : 4 ≤ l.length) (hs : sealedS l = true) : putS (l.take (l.length - 4)) (sumS (l.take (l.length - 4))) 4 = l := by
  rw [sealed_eq l hb h] at hs
  have hd : (l.drop (l.length - 4)).length = 4 := by rw [List.length_drop]; omega
  rw [← beq_iff_eq.1 hs, putS_app, put_be4 _ hd (fun x hx => hb x (List.mem_of_mem_drop hx)), List.take_append_drop]
theorem take7 {l : List Int} (h : 7 ≤ l.length) : l.take 7 = l.take 4 ++ [l.getD 4 0, l.getD 5 0, l.getD 6 0] := by
  match l, h with
  | a :: b :: c :: d :: e :: f :: g :: r, _ => rfl
theorem enc_dec (l : List Int) (hb : ∀ x ∈ l, 0 ≤ x ∧ x < 256) (hl : l.length ≤ 1000000000) (h : (decS l).2.2.2.2 = 0) :
    mayS (decS l).1 (decS l).2.1 (decS l).2.2.1 (decS l).2.2.2.1 = true ∧ ∀ bits, IsBits (decS l).2.2.2.1 bits → encB (decS l).1 (decS l).2.1 (decS l).2.2.1 bits = l := by
  unfold decS at h ⊢
  split at h
  · exact absurd h (by decide)
  rename_i h11
  rw [if_neg h11]
  split at h
  · exact absurd h (by decide)
  rename_i hm
  rw [if_neg hm]
  split at h
  · exact absurd h (by decide)
  rename_i hse
  rw [if_neg hse]
  split at h
  · exact absurd h (by decide)
  rename_i hc
  rw [if_neg hc]
  have hm : l.take 4 = [66, 82, 75, 49] := Decidable.not_not.1 hm
  have hse : sealedS l = true := by simpa using hse
  have hc : countsOk l = true := by simpa using hc
  obtain ⟨c4, c5, c6, cl⟩ := of_decide_eq_true hc
  have h7 := take7 (l := l) (by omega)
  rw [hm] at h7
  generalize l.getD 4 0 = C at *
  generalize l.getD 5 0 = s at *
  generalize l.getD 6 0 = n at *
  obtain ⟨C, rfl⟩ := Int.eq_ofNat_of_zero_le (show 0 ≤ C by omega)
  obtain ⟨s, rfl⟩ := Int.eq_ofNat_of_zero_le (show 0 ≤ s by omega)
  obtain ⟨n, rfl⟩ := Int.eq_ofNat_of_zero_le (show 0 ≤ n by omega)
  rw [Int.toNat_natCast, Int.toNat_natCast, Int.toNat_natCast] at h ⊢
  have hlen : (l.length : Int) = 11 + 4 * (n : Int) + (C : Int) * (s : Int) + ((s : Int) + 7) / 8 := by
    rw [← cl]; unfold XTable.lenS; rw [if_pos (by omega)]
  have hcs : (C : Int) * (s : Int) = ((s * C : Nat) : Int) := by rw [Nat.mul_comm]; simp
  rw [hcs] at hlen
  unfold bodyS at h ⊢
  split at h
  case isFalse => exact absurd h (by decide)
  rename_i hu
  rw [if_pos hu]
  show mayS (C : Int) ((List.range n).map (bandAt l)) ((List.range s).map (trowAt l (7 + 4 * n) C)) _ = true ∧ ∀ bits, IsBits _ bits → encB (C : Int) ((List.range n).map (bandAt l)) ((List.range s).map (trowAt l (7 + 4 * n) C)) bits = l
  have hmid : ((l.take (l.length - 4)).drop (7 + 4 * n + s * C)).length = (s + 7) / 8 := by rw [List.length_drop, List.length_take]; omega
  generalize hgm : (l.take (l.length - 4)).drop (7 + 4 * n + s * C) = mid at hu hmid
  have hmb : ∀ x ∈ mid, 0 ≤ x ∧ x < 256 := by
    intro x hx; rw [← hgm] at hx
    exact hb x (List.mem_of_mem_take (List.mem_of_mem_drop hx))
  unfold unbitsS at hu ⊢
  split at hu
  case isFalse => exact absurd hu (by decide)
  rename_i hok
  rw [if_pos hok, Int.toNat_natCast]
  have hib : IsBits ((List.range s).map (bitAt mid)) mid := (isBits_iff mid s hmb hmid.symm).2 (fun j hj => ((ok_iff mid s).1 hok).2.2.2 j (by omega))
  constructor
  · rw [may_iff]
    refine ⟨by simp; omega, fun b hb' => ?_, fun r hr => ?_⟩
    · obtain ⟨i, hi, rfl⟩ := List.mem_map.1 hb'
      have hi := List.mem_range.1 hi
      have h1 := range_of l (fun x => 0 ≤ x ∧ x < 256) hb (by omega) (10 + 4 * i)
      obtain ⟨x, y, z, e3⟩ := len3 (l := (l.drop (7 + 4 * i)).take 3) (by rw [List.length_take, List.length_drop]; omega)
      have hx3 : ∀ x ∈ (l.drop (7 + 4 * i)).take 3, 0 ≤ x ∧ x < 256 := fun x hx => hb x (List.mem_of_mem_drop (List.mem_of_mem_take hx))
      show (0 ≤ be 0 ((l.drop (7 + 4 * i)).take 3) ∧ be 0 ((l.drop (7 + 4 * i)).take 3) ≤ 16777215) ∧ 0 ≤ l.getD (10 + 4 * i) 0 ∧ l.getD (10 + 4 * i) 0 ≤ 255
      rw [e3] at hx3 ⊢
      have g1 := hx3 x (by simp)
      have g2 := hx3 y (by simp)
      have g3 := hx3 z (by simp)
      rw [be3]
      omega
    · obtain ⟨i, hi, rfl⟩ := List.mem_map.1 hr
      have hi := List.mem_range.1 hi
      have hle : (i + 1) * C ≤ s * C := Nat.mul_le_mul_right _ (by omega)
      rw [Nat.add_mul, Nat.one_mul] at hle
      refine ⟨by unfold trowAt; rw [List.length_take, List.length_drop]; omega, fun v hv => ?_⟩
      have := hb v (List.mem_of_mem_drop (List.mem_of_mem_take hv))
      omega
  · intro bits hbits
    obtain rfl := bits_one hbits hib
    rw [encB_core]
    have ec : coreB (C : Int) ((List.range n).map (bandAt l)) ((List.range s).map (trowAt l (7 + 4 * n) C)) bits = l.take (l.length - 4) := by
      unfold coreB
      rw [flat_bands l hb n (by omega), flat_rows l hb (7 + 4 * n) C s, List.length_map, List.length_range, List.length_map, List.length_range]
      have e7 : headB (C : Int) (s : Int) (n : Int) = l.take 7 := by
        rw [h7]; unfold headB
        rw [show (C : Int) % 256 = C by omega, show (s : Int) % 256 = s by omega, show (n : Int) % 256 = n by omega]
        rfl
      rw [e7, ← List.take_add, ← List.take_add, ← hgm, List.drop_take]
      have : (l.take (7 + 4 * n + s * C)) ++ (l.drop (7 + 4 * n + s * C)).take (l.length - 4 - (7 + 4 * n + s * C)) = l.take (l.length - 4) := by
        rw [← List.take_add]; congr 1; omega
      exact this
    rw [ec]
    exact sealed_last l hb (by omega) hse
end Go.Proofs.Ytpcbhghgommijaa.XTabBack
end
section
namespace Go.Proofs.Ytpcbhghgommijaa.XKeep
open Go Go.RowKit Go.Proofs.Ytpcbhghgommijaa.X Go.Proofs.Ytpcbhghgommijaa.XPure Go.Proofs.Ytpcbhghgommijaa.XPack Go.Proofs.YtpcbhghgommijaaW.PrintWords Go.Proofs.YtpcbhghgommijaaW.PrintLast Go.Proofs.YtpcbhghgommijaaW.PrintMore
set_option linter.unusedVariables false
set_option linter.unusedSimpArgs false
theorem keep_bytes (a b : List Int) (ha : ∀ x ∈ a, 0 ≤ x ∧ x < 256) (hb : ∀ x ∈ b, 0 ≤ x ∧ x < 256) : caesurakeep_Bytes.f a b = some (decide (a = b)) := by
  unfold caesurakeep_Bytes.f
  congr 1
  by_cases h : a = b
  · rw [decide_eq_true h, h]; simp
  · rw [decide_eq_false h]
    rw [beq_eq_false_iff_ne]
    exact fun he => h ((strOf_inj ha hb).1 he)
end Go.Proofs.Ytpcbhghgommijaa.XKeep
end
section
namespace Go.Proofs.Ytpcbhghgommijaa.PureTableBack
open Go Go.RowKit Go.Proofs.Ytpcbhghgommijaa.X Go.Proofs.Ytpcbhghgommijaa.XPure Go.Proofs.Ytpcbhghgommijaa.XPack Go.Proofs.Ytpcbhghgommijaa.XKeep Go.Proofs.Ytpcbhghgommijaa.XSum Go.Proofs.Ytpcbhghgommijaa.XTable Go.Proofs.Ytpcbhghgommijaa.XTabEq Go.Proofs.Ytpcbhghgommijaa.XTabLaw Go.Proofs.Ytpcbhghgommijaa.XTabBack Go.Proofs.Ytpcbhghgommijaa.XWakes06 Go.Proofs.YtpcbhghgommijaaW.PrintWords Go.Proofs.YtpcbhghgommijaaW.PrintLast Go.Proofs.YtpcbhghgommijaaW.PrintMore
set_option linter.unusedVariables false
set_option linter.unusedSimpArgs false
set_option maxHeartbeats 1000000
theorem back_j4 (l : List Int) (hb : ∀ x ∈ l, 0 ≤ x ∧ x < 256) (hl : l.length ≤ 100000) : Ev (fun k => caesuralaw06_TableBack.j4 k l) true := by
  refine Ev.step (fun k => by simp only [caesuralaw06_TableBack.j4]; rfl) (Ev.bind (dec_ev l hb (by omega)) ?_)
  by_cases he : (decS l).2.2.2.2 = 0
  · obtain ⟨hm, hq⟩ := enc_dec l hb (by omega) he
    obtain ⟨h1, h2, h3⟩ := may_iff.1 hm
    obtain ⟨bits, hi, hev⟩ := (enc_ev _ _ _ _ (by omega) (by omega) (fun x hx => by have := (h3 x hx).1; omega)).2 hm
    rw [hq bits hi] at hev
    refine Ev.pos he (Ev.bind hev (Ev.pos rfl (Ev.bindc (keep_bytes l l hb hb) (Ev.pos (decide_eq_true rfl) (Ev.bind wakes (Ev.now _))))))
  · obtain ⟨h1, h2⟩ := dec_cases l he
    refine Ev.neg he (Ev.pos h1 (Ev.pos (by rw [h2]; rfl) (Ev.bind wakes (Ev.now _))))
theorem back_j3 (l x : List Int) (n0 n1 : Int) (hb : ∀ x ∈ l, 0 ≤ x ∧ x < 256) (hl : l.length ≤ 100000) (hx : ∀ y ∈ x, 0 ≤ y ∧ y < 256) (hxl : 11 ≤ x.length ∧ x.length ≤ 100000) (hs : sealedS x = true) (h0 : 0 ≤ n0 ∧ n0 < 65536) (h1 : 0 ≤ n1 ∧ n1 < 65536) :
    Ev (fun k => caesuralaw06_TableBack.j3 k l x false n0 n1) true := by
  have ht : Int.tmod (wrap64 n0) (x.length : Int) = ((n0.toNat % x.length : Nat) : Int) := by
    rw [w64 (by omega) (by omega), tmod_nn h0.1]
    have : n0 = (n0.toNat : Int) := by omega
    rw [this]
    simp
  obtain ⟨i, hi⟩ : ∃ i, i = n0.toNat % x.length := ⟨_, rfl⟩
  have hlt : i < x.length := by rw [hi]; exact Nat.mod_lt _ (by omega)
  have hn : (1 + Int.tmod n1 255 % 256) % 256 = 1 + n1 % 255 := by rw [tmod_nn h1.1]; omega
  have hxi := hx _ (List.getElem_mem hlt)
  obtain ⟨hv0, hv1, hv2⟩ := xor_byte x[i] (1 + n1 % 255) hxi (by omega)
  have hset := sealed_set x hx (by omega) hs i hlt _ ⟨hv0, hv1⟩ (fun h => by have := hv2.1 h; omega)
  have hsb : ∀ y ∈ x.set i (Go.bits .xor .u8 x[i] (1 + n1 % 255)), 0 ≤ y ∧ y < 256 := by
    intro y hy
    rcases List.mem_or_eq_of_mem_set hy with h | rfl
    · exact hx y h
    · exact ⟨hv0, hv1⟩
  have hd := dec_ev _ hsb (by rw [List.length_set]; omega)
  have hc := dec_unsealed _ (by rw [List.length_set]; omega) hset
  refine Ev.step (f := fun k => (table_Decode.f k (x.set i (Go.bits .xor .u8 x[i] (1 + n1 % 255)))).bind fun bt573 => (if bt573.2.2.2.2 = 23 then (caesuralaw06_TableBack.j4 k l) else (if bt573.2.2.2.2 = 22 then (caesuralaw06_TableBack.j4 k l) else (none)))) (fun k => ?_) ?_
  · simp only [caesuralaw06_TableBack.j3]
    rw [if_neg (by decide), Option.bind_some, List.nil_append, if_pos (by simp; omega), Option.bind_some, ht, ← hi, if_neg (by omega), if_pos (by omega), if_pos (by omega), hn, rd_nat, getD_lt hlt, Int.toNat_natCast]
  · refine Ev.bind hd ?_
    rcases hc with h | h
    · exact Ev.neg (by rw [h]; decide) (Ev.pos h (back_j4 l hb hl))
    · exact Ev.pos h (back_j4 l hb hl)
theorem back_j0 (l : List Int) (C : Int) (bands : List Ba) (next : List (List Int)) (brk : List Bool) (n0 n1 : Int) (hb : ∀ x ∈ l, 0 ≤ x ∧ x < 256) (hl : l.length ≤ 100000) (h1 : bands.length ≤ 400) (h2 : next.length ≤ 3000) (h3 : ∀ x ∈ next, x.length ≤ 3000) (h4 : brk.length ≤ 1000) (h0 : 0 ≤ n0 ∧ n0 < 65536) (hn1 : 0 ≤ n1 ∧ n1 < 65536) :
    Ev (fun k => caesuralaw06_TableBack.j0 k l false C bands next brk n0 n1) true := by
  have hev := enc_ev C bands next brk (by omega) (by omega) (fun x hx => by have := h3 x hx; omega)
  refine Ev.step (fun k => by simp only [caesuralaw06_TableBack.j0, Bool.false_eq_true, if_false]; rfl) ?_
  cases hm : mayS C bands next brk with
  | false => exact Ev.bind (hev.1 hm) (Ev.neg (by decide) (back_j4 l hb hl))
  | true =>
    obtain ⟨bits, hi, he⟩ := hev.2 hm
    have ht : IsTab C bands next brk bits := ⟨hm, hi⟩
    have hlen := ht.len
    have hsm := ht.small
    have hls := ht.lenS
    have hde := dec_enc ht
    have hdev := dec_ev _ ht.bytes (by omega)
    have hj3 := back_j3 l (encB C bands next bits) n0 n1 hb hl ht.bytes (by omega) ht.sealed h0 hn1
    refine Ev.bind he (Ev.pos rfl (Ev.neg (by show ¬ ((encB C bands next bits).length : Int) < 11; omega) (Ev.bindc (tlen_eq _ _ _) ?_)))
    show Ev (fun k => caesuralaw06_TableBack.j1 k l (encB C bands next bits) (((encB C bands next bits).length : Int) != XTable.lenS C next.length bands.length) C bands next brk n0 n1) true
    rw [hls, show (((encB C bands next bits).length : Int) != (encB C bands next bits).length) = false by simp]
    have hmay : ∀ b : Bool, b = mayDec C bands next → Ev (fun k => caesuralaw06_TableBack.j2 k l (encB C bands next bits) (decS (encB C bands next bits)).2.2.2.2 b C bands next brk n0 n1 (decS (encB C bands next bits)).1 (decS (encB C bands next bits)).2.1 (decS (encB C bands next bits)).2.2.1 (decS (encB C bands next bits)).2.2.2.1) true := by
      intro b hbq
      subst hbq
      rw [hde]
      cases hmd : mayDec C bands next with
      | false =>
        refine Ev.step (f := fun k => caesuralaw06_TableBack.j3 k l (encB C bands next bits) false n0 n1) (fun k => ?_) hj3
        simp [caesuralaw06_TableBack.j2, errS]
      | true =>
        have hk := ktable_ev C bands next brk C bands next brk (by omega) (by omega) (fun x hx => by have := h3 x hx; omega) (by omega)
        rw [show eqS C bands next brk C bands next brk = true by simp [eqS]] at hk
        refine Ev.step (f := fun k => (caesurakeep_Table.f k C bands next brk C bands next brk).bind fun t => if t = true then caesuralaw06_TableBack.j3 k l (encB C bands next bits) false n0 n1 else caesuralaw06_TableBack.j3 k l (encB C bands next bits) true n0 n1) (fun k => ?_) (Ev.bind hk (Ev.pos rfl hj3))
        simp [caesuralaw06_TableBack.j2]
    refine Ev.step (fun k => by simp only [caesuralaw06_TableBack.j1, Bool.false_eq_true, if_false]; rfl) (Ev.bind hdev ?_)
    by_cases g1 : C ≤ 8
    case neg => exact Ev.neg g1 (hmay false (by symm; exact decide_eq_false (fun h => g1 h.1)))
    refine Ev.pos g1 ?_
    by_cases g2 : (next.length : Int) ≤ 5
    case neg => exact Ev.neg g2 (hmay false (by symm; exact decide_eq_false (fun h => g2 (by have := h.2.1; omega))))
    refine Ev.pos g2 ?_
    by_cases g3 : (bands.length : Int) ≥ 1
    case neg => exact Ev.neg g3 (hmay false (by symm; exact decide_eq_false (fun h => g3 (by have := h.2.2.1; omega))))
    refine Ev.pos g3 (hmay _ ?_)
    apply decide_eq_decide.2
    omega
theorem TableBack : caesuralaw06_TableBack.Pure := by
  intro x0 b x2 h hb _ hn
  have hb' : ∀ x ∈ b, 0 ≤ x ∧ x < 256 := fun x hx => u8b (hb.2 x hx)
  have hml : maxLen ≤ 9223372036854775807 := by unfold maxLen; decide
  refine Ev.rounds (g := fun k => caesuralaw06_TableBack.f k x0.f0 x0.f1 x0.f2 x0.f3 b x2.f0 x2.f1) ?_
  have hw : ∀ x : Bool, x = true → Ev (fun k => caesuralaw06_TableBack.j0 k b x x0.f0 x0.f1 x0.f2 x0.f3 x2.f0 x2.f1) true := by
    intro x hx
    subst hx
    refine Ev.step (f := fun k => (caesuralaw06_wakes.f k).bind fun t => some t) (fun k => by simp only [caesuralaw06_TableBack.j0, if_true]) (Ev.bind wakes (Ev.now _))
  obtain ⟨r, hr, hq⟩ := large_ev x0.f0 x0.f1 x0.f2 x0.f3 (by have := h.2.2.1.1; omega)
  unfold caesuralaw06_TableBack.f
  refine Ev.bind hr ?_
  cases r with
  | true => exact Ev.pos rfl (hw _ rfl)
  | false =>
    obtain ⟨g1, g2, g3, g4⟩ := hq rfl
    refine Ev.neg (by decide) ?_
    by_cases c2 : (b.length : Int) > 2000
    · exact hw _ (decide_eq_true c2)
    · rw [decide_eq_false c2]
      exact back_j0 b _ _ _ _ _ _ hb' (by omega) g1 g2 g3 g4 (u16b hn.1) (u16b hn.2)
end Go.Proofs.Ytpcbhghgommijaa.PureTableBack
namespace Go.Proofs.Ytpcbhghgommijaa.Pure
theorem TableBack : X.caesuralaw06_TableBack.Pure := PureTableBack.TableBack
end Go.Proofs.Ytpcbhghgommijaa.Pure
end
