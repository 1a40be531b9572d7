/- Numbers put one behind the other are got at their places; up to 60 of them. No condition. -/
import Derived.Test.YtoilaibpmepecaaXKeep
import Derived.Test.YtoilaibpmepecaaXWakes05
import Derived.Test.YtoilaibpmepecaaXx11
namespace Go.Proofs.Ytoilaibpmepecaa.PurePackRows
open Go Go.RowKit Go.Proofs.Ytoilaibpmepecaa.X Go.Proofs.Ytoilaibpmepecaa.XPure Go.Proofs.Ytoilaibpmepecaa.XKeep Go.Proofs.Ytoilaibpmepecaa.XWakes05 Go.Proofs.Ytoilaibpmepecaa.XPack Go.Proofs.YtoilaibpmepecaaW.PrintWords Go.Proofs.YtoilaibpmepecaaW.PrintLast Go.Proofs.YtoilaibpmepecaaW.PrintMore
set_option linter.unusedVariables false
set_option linter.unusedSimpArgs false
set_option maxHeartbeats 1000000

def ks (sz : List Int) (i : Nat) : Nat := (1 + sz.getD i 0 % 4).toNat
def rowsB (l sz : List Int) : Nat → List Int
  | 0 => []
  | i + 1 => putS (rowsB l sz i) (l.getD i 0) (ks sz i)
theorem rows_more (l sz : List Int) (i : Nat) : ∀ d, ∃ r, rowsB l sz (i + d) = rowsB l sz i ++ r
  | 0 => ⟨[], by simp⟩
  | d + 1 => by
    obtain ⟨r, hr⟩ := rows_more l sz i d
    refine ⟨r ++ ([l.getD (i + d) 0 / 16777216 % 256, l.getD (i + d) 0 / 65536 % 256, l.getD (i + d) 0 / 256 % 256, l.getD (i + d) 0 % 256].drop (4 - max 0 (min (ks sz (i + d) : Int) 4)).toNat), ?_⟩
    show putS (rowsB l sz (i + d)) _ _ = _
    unfold putS
    rw [hr, List.append_assoc]
    rfl
theorem rows_bytes (l sz : List Int) : ∀ i, ∀ x ∈ rowsB l sz i, 0 ≤ x ∧ x < 256
  | 0 => fun x hx => by simp [rowsB] at hx
  | i + 1 => put_bytes _ _ _ (rows_bytes l sz i)
theorem rows_len (l sz : List Int) : ∀ i, (rowsB l sz i).length ≤ 4 * i
  | 0 => by simp [rowsB]
  | i + 1 => by
    have := put_len (rowsB l sz i) (l.getD i 0) (ks sz i)
    have := rows_len l sz i
    show (putS _ _ _).length ≤ _
    omega
theorem PackRows : caesuralaw05_PackRows.Pure := by
  intro l sz hl _ hz _
  have hl' : ∀ x ∈ l, 0 ≤ x ∧ x < 4294967296 := fun x hx => u32b (hl.2 x hx)
  have hz' : ∀ x ∈ sz, 0 ≤ x ∧ x < 256 := fun x hx => u8b (hz.2 x hx)
  refine Ev.rounds (g := fun k => caesuralaw05_PackRows.f k l sz) ?_
  have hw : ∀ x : Bool, x = true → Ev (fun k => caesuralaw05_PackRows.j0 k l sz x) true := by
    intro x hx
    subst hx
    refine Ev.step (f := fun k => (caesuralaw05_wakes.f k).bind fun t => some t) (fun k => by simp only [caesuralaw05_PackRows.j0, if_true]) (Ev.bind wakes (Ev.now _))
  unfold caesuralaw05_PackRows.f
  by_cases c1 : (l.length : Int) > 60
  · exact Ev.pos c1 (hw _ rfl)
  · refine Ev.neg c1 ?_
    by_cases c2 : (sz.length : Int) < l.length
    · exact hw _ (decide_eq_true c2)
    · rw [decide_eq_false c2]
      refine Ev.step (fun k => by simp only [caesuralaw05_PackRows.j0, Bool.false_eq_true, if_false]; rfl) ?_
      have hk : ∀ i : Nat, i < l.length → 1 ≤ ks sz i ∧ ks sz i ≤ 4 ∧ wrap64 (1 + Int.tmod (wrap64 (rd sz (i : Int))) 4) = (ks sz i : Int) := by
        intro i hi
        have hr := range_of sz (fun x => 0 ≤ x ∧ x < 256) hz' (by omega) i
        unfold ks
        refine ⟨by omega, by omega, ?_⟩
        rw [rd_nat, w64 (n := sz.getD i 0) (by omega) (by omega), tmod_nn hr.1, w64 (by omega) (by omega)]
        omega
      have hv : ∀ i : Nat, wrap64 (rd l (i : Int)) = l.getD i 0 := by
        intro i
        have hr := range_of l (fun x => 0 ≤ x ∧ x < 4294967296) hl' (by omega) i
        rw [rd_nat]
        exact w64 (by omega) (by omega)
      have G : ∀ d i : Nat, i + d = l.length → Ev (fun k => caesuralaw05_PackRows.l1 k l sz (rowsB l sz l.length) ((rowsB l sz i).length : Int) (i : Int)) true := by
        intro d
        induction d with
        | zero =>
          intro i hi
          obtain rfl : i = l.length := by omega
          have hb := rows_bytes l sz l.length
          have hn := rows_len l sz l.length
          have g1 := get_ev (rowsB l sz l.length) (rowsB l sz l.length).length 1 hb (by omega) (by omega)
          have g2 := get_ev (rowsB l sz l.length) (-1) 1 hb (by omega) (by omega)
          have n1 : getS (rowsB l sz l.length) (rowsB l sz l.length).length 1 = (0, false) := by
            unfold getS
            rw [if_neg]
            unfold getOk
            rw [decide_eq_false (by omega)]
            decide
          have n2 : getS (rowsB l sz l.length) (-1) 1 = (0, false) := by
            unfold getS
            rw [if_neg]
            unfold getOk
            rw [decide_eq_false (by omega)]
            decide
          rw [n1] at g1
          rw [n2] at g2
          refine Ev.step (fun k => by simp only [caesuralaw05_PackRows.l1]; rw [if_neg (by omega)]) ?_
          exact Ev.bind g1 (Ev.bind g2 (Ev.pos (by simp) (Ev.neg (by decide) (Ev.neg (by decide) (Ev.bind wakes (Ev.now _))))))
        | succ d ih =>
          intro i hi
          obtain ⟨k1, k4, ke⟩ := hk i (by omega)
          obtain ⟨r, hr⟩ := rows_more l sz (i + 1) d
          rw [show i + 1 + d = l.length by omega] at hr
          have hb := rows_bytes l sz l.length
          have hn := rows_len l sz l.length
          have hni := rows_len l sz i
          have hgp := get_put (rowsB l sz i) r (l.getD i 0) (ks sz i) k1 k4
          have hr' : rowsB l sz l.length = putS (rowsB l sz i) (l.getD i 0) (ks sz i) ++ r := hr
          rw [← hr'] at hgp
          have g1 := get_ev (rowsB l sz l.length) (rowsB l sz i).length (ks sz i) hb (by omega) (by omega)
          rw [hgp] at g1
          have hlv := range_of l (fun x => 0 ≤ x ∧ x < 4294967296) hl' (by omega) i
          refine Ev.step (fun k => by simp only [caesuralaw05_PackRows.l1]; rw [if_pos (by omega), if_pos (by omega), if_pos (by omega), ke, hv, mask64 _ _ k1 k4 hlv]) ?_
          refine Ev.bind g1 (Ev.pos rfl ?_)
          have e1 : IntKind.u64.wrap (wrap64 (8 * (ks sz i : Int))) = ((8 * ks sz i : Nat) : Int) := by rw [w64 (by omega) (by omega), u64w (by omega) (by omega)]; omega
          rw [e1, succ64 i (by omega)]
          refine Ev.pos (by omega) (Ev.pos rfl ?_)
          have e2 : wrap64 (((rowsB l sz i).length : Int) + (ks sz i : Int)) = ((rowsB l sz (i + 1)).length : Int) := by
            have := put_len (rowsB l sz i) (l.getD i 0) (ks sz i)
            show _ = ((putS _ _ _).length : Int)
            rw [w64 (by omega) (by omega)]
            omega
          rw [e2]
          exact ih (i + 1) (by omega)
      have P : ∀ d i : Nat, i + d = l.length → Ev (fun k => caesuralaw05_PackRows.l0 k l sz (rowsB l sz i) (i : Int)) true := by
        intro d
        induction d with
        | zero =>
          intro i hi
          obtain rfl : i = l.length := by omega
          have := G l.length 0 (by omega)
          refine Ev.step (fun k => ?_) this
          simp only [caesuralaw05_PackRows.l0]
          rw [if_neg (by omega)]
          rfl
        | succ d ih =>
          intro i hi
          obtain ⟨k1, k4, ke⟩ := hk i (by omega)
          have hni := rows_len l sz i
          refine Ev.step (fun k => ?_) (ih (i + 1) (by omega))
          simp only [caesuralaw05_PackRows.l0]
          rw [if_pos (by omega), if_pos (by omega), if_pos (by omega), ke, hv, put_eq _ _ _ (by omega), succ64 i (by omega)]
          rfl
      exact P l.length 0 (by omega)
end Go.Proofs.Ytoilaibpmepecaa.PurePackRows
namespace Go.Proofs.Ytoilaibpmepecaa.Pure
theorem PackRows : X.caesuralaw05_PackRows.Pure := PurePackRows.PackRows
end Go.Proofs.Ytoilaibpmepecaa.Pure
