/- The bit of each place stands in its byte, the first lowest, all others are nothing; for lists of up to 300. No condition. -/
import Derived.Test.YtoilaibpmepecaaXKeep
import Derived.Test.YtoilaibpmepecaaXWakes05
import Derived.Test.YtoilaibpmepecaaXx10
namespace Go.Proofs.Ytoilaibpmepecaa.PurePackBits
open Go Go.RowKit Go.Proofs.Ytoilaibpmepecaa.X Go.Proofs.Ytoilaibpmepecaa.XPure Go.Proofs.Ytoilaibpmepecaa.XKeep Go.Proofs.Ytoilaibpmepecaa.XWakes05 Go.Proofs.Ytoilaibpmepecaa.XPack Go.Proofs.YtoilaibpmepecaaW.PrintWords Go.Proofs.YtoilaibpmepecaaW.PrintLast Go.Proofs.YtoilaibpmepecaaW.PrintMore
set_option linter.unusedVariables false
set_option linter.unusedSimpArgs false
set_option maxHeartbeats 1000000

theorem and7 (i : Nat) (h : i < 1000000) : IntKind.u64.wrap (Go.bits .and .i64 (i : Int) 7) = ((i % 8 : Nat) : Int) := by
  have : Go.bits .and .i64 (i : Int) 7 = (i : Int) % 2 ^ 3 := bits_mask .i64 63 (by decide) wraps_i64 3 (by decide) (i : Int) (by omega) (by omega)
  rw [this, u64w (by omega) (by omega)]
  omega
/-- What is asked of a count: n. -/
def wantB (l : List Bool) (b : List Int) (n : Int) : Bool := decide (0 ≤ n ∧ (n.toNat + 7) / 8 = b.length)
theorem want_unbits {l : List Bool} {b : List Int} (q : IsBits l b) (n : Int) : unbitsOk b n = (wantB l b n && (List.range l.length).all (fun j => decide (n ≤ j → l.getD j false = false))) := by
  rw [Bool.eq_iff_iff, ok_iff, Bool.and_eq_true, List.all_eq_true]
  unfold wantB
  rw [decide_eq_true_eq]
  have ql := q.len
  constructor
  · rintro ⟨h1, h2, h3, h4⟩
    refine ⟨⟨h1, h3⟩, fun j _ => decide_eq_true (fun hj => ?_)⟩
    rw [← q.bit]
    exact h4 j hj
  · rintro ⟨⟨h1, h3⟩, h4⟩
    refine ⟨h1, by omega, h3, fun j hj => ?_⟩
    rw [q.bit]
    by_cases hl : j < l.length
    · exact of_decide_eq_true (h4 j (List.mem_range.2 hl)) hj
    · simp [List.getD, List.getElem?_eq_none (by omega : l.length ≤ j)]
theorem PackBits : caesuralaw05_PackBits.Pure := by
  intro l hl
  refine Ev.rounds (g := fun k => caesuralaw05_PackBits.f k l) ?_
  unfold caesuralaw05_PackBits.f
  by_cases c1 : (l.length : Int) > 300
  · exact Ev.pos c1 (Ev.bind wakes (Ev.now _))
  · refine Ev.neg c1 ?_
    obtain ⟨b, hb, q⟩ := bits_ev l (by omega)
    have ql := q.len
    have e1 : wrap64 (Int.tdiv (wrap64 ((l.length : Int) + 7)) 8) = (b.length : Int) := by
      rw [w64 (n := (l.length : Int) + 7) (by omega) (by omega), tdiv_nn (by omega), w64 (by omega) (by omega), ql]
      omega
    refine Ev.bind hb (Ev.pos e1.symm ?_)
    -- what is asked of each count
    have R : ∀ n : Int, -9 ≤ n → n ≤ 309 → ∀ (k0 : Nat → Option Bool), Ev k0 true → (∀ k, caesuralaw05_PackBits.l1 k l b (wrap64 (n + 1)) = k0 k) → Ev (fun k => (pack_Unbits.f k b n).bind fun bt387 => (if n ≥ 0 then (caesuralaw05_PackBits.j2 k l b n bt387.1 bt387.2 ((wrap64 (Int.tdiv (wrap64 (n + 7)) 8)) == (b.length : Int))) else (caesuralaw05_PackBits.j2 k l b n bt387.1 bt387.2 false))) true := by
      intro n hn0 hn1 k0 hk0 hke
      have u := unbits_ev b n q.bytes (by omega)
      -- the round's end: what was told is what is wanted
      have fin : ∀ x9 : Int, ((unbitsS b n).2 = unbitsOk b n) → Ev (fun k => if ((unbitsS b n).2 != unbitsOk b n) = true then (none) else (if (unbitsS b n).2 = true then (if ((unbitsS b n).1.length : Int) = n then (caesuralaw05_PackBits.l1 k l b (wrap64 (n + 1))) else (none)) else (if ((unbitsS b n).1.length : Int) = 0 then (caesuralaw05_PackBits.l1 k l b (wrap64 (n + 1))) else (none)))) true := by
        intro _ he
        refine Ev.neg (by rw [he]; simp) ?_
        by_cases hok : unbitsOk b n = true
        · have h0 := ((ok_iff b n).1 hok).1
          have : unbitsS b n = ((List.range n.toNat).map (bitAt b), true) := by unfold unbitsS; rw [if_pos hok]
          rw [this]
          refine Ev.pos rfl (Ev.pos (by simp; omega) (Ev.congr hke hk0))
        · have : unbitsS b n = ([], false) := by unfold unbitsS; rw [if_neg hok]
          rw [this]
          refine Ev.neg (by decide) (Ev.pos rfl (Ev.congr hke hk0))
      have he2 : (unbitsS b n).2 = unbitsOk b n := by
        unfold unbitsS
        split
        · rename_i h; rw [h]
        · rename_i h; rw [Bool.eq_false_iff.2 h]
      have fin' := fin 0 he2
      -- the inner loop
      have I : ∀ (d i : Nat) (w : Bool), (i + d = l.length ∨ (l.length ≤ i ∧ d = 0)) → 0 ≤ n → n ≤ i → (w = (wantB l b n && (List.range l.length).all (fun j => decide (n ≤ j → j < i → l.getD j false = false)))) →
          Ev (fun k => caesuralaw05_PackBits.l2 k l b n (unbitsS b n).1 (unbitsS b n).2 w (i : Int)) true := by
        intro d
        induction d with
        | zero =>
          intro i w hi h0 hni hw
          have hwok : w = unbitsOk b n := by
            rw [want_unbits q, hw]
            congr 1
            rw [Bool.eq_iff_iff, List.all_eq_true, List.all_eq_true]
            constructor
            · intro h j hj
              have := of_decide_eq_true (h j hj)
              have hjl := List.mem_range.1 hj
              exact decide_eq_true (fun hn => this hn (by omega))
            · intro h j hj
              have := of_decide_eq_true (h j hj)
              exact decide_eq_true (fun hn _ => this hn)
          rw [hwok]
          refine Ev.step (fun k => ?_) fin'
          simp only [caesuralaw05_PackBits.l2]
          rw [if_neg (by omega)]
        | succ d ih =>
          intro i w hi h0 hni hw
          have hlt : i < l.length := by omega
          cases w with
          | false =>
            have hwok : false = unbitsOk b n := by
              rw [want_unbits q]
              symm
              rw [Bool.and_eq_false_iff]
              have := hw.symm
              rw [Bool.and_eq_false_iff] at this
              rcases this with h | h
              · exact Or.inl h
              · refine Or.inr (Bool.eq_false_iff.2 (fun h2 => ?_))
                rw [List.all_eq_true] at h2
                have h3 : (List.range l.length).all (fun j => decide (n ≤ j → j < i → l.getD j false = false)) = true := by
                  rw [List.all_eq_true]
                  intro j hj
                  have := of_decide_eq_true (h2 j hj)
                  exact decide_eq_true (fun hn _ => this hn)
                rw [h3] at h
                cases h
            rw [hwok]
            refine Ev.step (fun k => ?_) fin'
            rw [← hwok]
            simp only [caesuralaw05_PackBits.l2]
            rw [if_pos (by omega), if_neg (by decide)]
          | true =>
            have := ih (i + 1) (!(l.getD i false)) (by omega) h0 (by omega) (by
              have h1 := hw.symm
              rw [Bool.and_eq_true, List.all_eq_true] at h1
              rw [h1.1, Bool.true_and]
              cases hli : l.getD i false with
              | true =>
                symm
                rw [Bool.not_true]
                apply Bool.eq_false_iff.2
                intro h2
                rw [List.all_eq_true] at h2
                have := of_decide_eq_true (h2 i (List.mem_range.2 hlt)) hni (by omega)
                rw [hli] at this
                cases this
              | false =>
                symm
                rw [Bool.not_false, List.all_eq_true]
                intro j hj
                refine decide_eq_true (fun hn hji => ?_)
                by_cases hjj : j = i
                · rw [hjj]; exact hli
                · exact of_decide_eq_true (h1.2 j hj) hn (by omega))
            refine Ev.step (fun k => ?_) this
            simp only [caesuralaw05_PackBits.l2, if_true]
            rw [if_pos (by omega), if_pos (by omega), rdB_nat, succ64 i (by omega)]
      refine Ev.bind u ?_
      by_cases h0 : n ≥ 0
      · refine Ev.pos h0 ?_
        obtain ⟨m, rfl⟩ := Int.eq_ofNat_of_zero_le h0
        have e2 : (wrap64 (Int.tdiv (wrap64 ((m : Int) + 7)) 8) == (b.length : Int)) = wantB l b m := by
          rw [w64 (n := (m : Int) + 7) (by omega) (by omega), tdiv_nn (by omega), w64 (by omega) (by omega)]
          unfold wantB
          rw [Bool.eq_iff_iff, beq_iff_eq, decide_eq_true_eq, Int.toNat_natCast]
          omega
        have J := I (l.length - m) m (wantB l b m) (by omega) (by omega) (by omega) (by
          have : (List.range l.length).all (fun j => decide ((m : Int) ≤ j → j < m → l.getD j false = false)) = true := by
            rw [List.all_eq_true]
            intro j _
            exact decide_eq_true (fun h1 h2 => by omega)
          rw [this, Bool.and_true])
        refine Ev.step (fun k => ?_) J
        rw [← e2]
        simp only [caesuralaw05_PackBits.j2]
      · refine Ev.neg h0 ?_
        have hwok : false = unbitsOk b n := by
          symm
          apply Bool.eq_false_iff.2
          intro h
          have := ((ok_iff b n).1 h).1
          omega
        refine Ev.step (f := fun k => caesuralaw05_PackBits.l2 k l b n (unbitsS b n).1 (unbitsS b n).2 false n) (fun k => by simp only [caesuralaw05_PackBits.j2]) ?_
        by_cases hlen : n < (l.length : Int)
        · refine Ev.step (fun k => ?_) (hwok ▸ fin')
          simp only [caesuralaw05_PackBits.l2]
          rw [if_pos hlen, if_neg (by decide)]
        · omega
    -- the counts, one by one
    have L1 : ∀ (d : Nat) (n : Int), n + d = (l.length : Int) + 10 → -9 ≤ n → Ev (fun k => caesuralaw05_PackBits.l1 k l b n) true := by
      intro d
      have e9 : wrap64 ((l.length : Int) + 9) = (l.length : Int) + 9 := w64 (by omega) (by omega)
      induction d with
      | zero =>
        intro n hn h9
        refine Ev.step (fun k => by simp only [caesuralaw05_PackBits.l1]; rw [e9, if_neg (by omega)]) (Ev.bind wakes (Ev.now _))
      | succ d ih =>
        intro n hn h9
        have := ih (n + 1) (by omega) (by omega)
        refine Ev.step (fun k => by simp only [caesuralaw05_PackBits.l1]; rw [e9, if_pos (by omega)]) ?_
        exact R n h9 (by omega) _ this (fun k => by rw [w64 (by omega) (by omega)])
    -- the bits, one by one
    have e8 : wrap64 (8 * (b.length : Int)) = 8 * b.length := w64 (by omega) (by omega)
    have L0 : ∀ (d i : Nat), i + d = 8 * b.length → Ev (fun k => caesuralaw05_PackBits.l0 k l b (i : Int)) true := by
      intro d
      induction d with
      | zero =>
        intro i hi
        have := L1 19 ((l.length : Int) - 9) (by omega) (by omega)
        refine Ev.step (fun k => ?_) this
        simp only [caesuralaw05_PackBits.l0]
        rw [e8, if_neg (by omega), w64 (n := (l.length : Int) - 9) (by omega) (by omega)]
      | succ d ih =>
        intro i hi
        have r := byte_at q.bytes (i / 8)
        have e3 : ((i : Int) / 8) = ((i / 8 : Nat) : Int) := by omega
        have e4 : (Go.bits .and .u8 (shr .u8 (rd b ((i / 8 : Nat) : Int)) ((i % 8 : Nat) : Int)) 1 == 1) = l.getD i false := by
          rw [rd_nat, shr_and _ _ r (by omega), ← q.bit]; rfl
        refine Ev.step (fun k => ?_) (ih (i + 1) (by omega))
        simp only [caesuralaw05_PackBits.l0]
        rw [e8, if_pos (by omega), e3, and7 i (by omega), e4, if_pos (by omega), if_pos (by omega), if_pos (by omega), succ64 i (by omega)]
        by_cases hli : i < l.length
        · rw [if_pos (by omega), if_pos (by omega), rdB_nat, if_neg (by simp)]
        · have : l.getD i false = false := by simp [List.getD, List.getElem?_eq_none (by omega : l.length ≤ i)]
          rw [if_neg (by omega), this, if_neg (by decide)]
    exact L0 (8 * b.length) 0 (by omega)
end Go.Proofs.Ytoilaibpmepecaa.PurePackBits
namespace Go.Proofs.Ytoilaibpmepecaa.Pure
theorem PackBits : X.caesuralaw05_PackBits.Pure := PurePackBits.PackBits
end Go.Proofs.Ytoilaibpmepecaa.Pure
