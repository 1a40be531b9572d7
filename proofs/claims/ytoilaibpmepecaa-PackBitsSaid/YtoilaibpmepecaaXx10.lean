/- Functions of the program as Lean functions, and that the program comes to their answers (written by this session's own program, wip/x/xprint.py; Lean checks it). -/
import Derived.Test.YtoilaibpmepecaaXx0
import Derived.Test.YtoilaibpmepecaaXx4
import Derived.Test.YtoilaibpmepecaaXx5
namespace Go.Proofs.Ytoilaibpmepecaa.X
open Go.RowKit Go.Proofs.YtoilaibpmepecaaW.PrintWords Go.Proofs.YtoilaibpmepecaaW.PrintLast Go.Proofs.YtoilaibpmepecaaW.PrintMore
attribute [local go_sem] max2_int min2_int max_two min_two max_three min_three max_four min_four   -- for this text's walks alone
set_option linter.unusedVariables false
set_option linter.unusedSimpArgs false

/-! ### caesuralaw05_PackBits: function 11 -/
mutual
def caesuralaw05_PackBits.l0 : Nat → List Bool → List Int → Int → Option (Bool)
  | 0, _, _, _ => none
  | k + 1, x0, x3, x4 => if x4 < (wrap64 (8 * (x3.length : Int))) then (if 0 ≤ (x4 / 8) then (if (x4 / 8) < (x3.length : Int) then (if 0 ≤ (IntKind.u64.wrap (Go.bits .and .i64 x4 7)) then (if x4 < (x0.length : Int) then (if 0 ≤ x4 then (if (((Go.bits .and .u8 (shr .u8 (rd x3 (x4 / 8)) (IntKind.u64.wrap (Go.bits .and .i64 x4 7))) 1) == 1) != (rdOf false x0 x4)) = true then (none) else (caesuralaw05_PackBits.l0 k x0 x3 (wrap64 (x4 + 1)))) else (none)) else (if (((Go.bits .and .u8 (shr .u8 (rd x3 (x4 / 8)) (IntKind.u64.wrap (Go.bits .and .i64 x4 7))) 1) == 1) != false) = true then (none) else (caesuralaw05_PackBits.l0 k x0 x3 (wrap64 (x4 + 1))))) else (none)) else (none)) else (none)) else (caesuralaw05_PackBits.l1 k x0 x3 (wrap64 ((x0.length : Int) - 9)))
def caesuralaw05_PackBits.l1 : Nat → List Bool → List Int → Int → Option (Bool)
  | 0, _, _, _ => none
  | k + 1, x0, x3, x5 => if x5 ≤ (wrap64 ((x0.length : Int) + 9)) then ((pack_Unbits.f k x3 x5).bind fun bt393 => (if x5 ≥ 0 then (caesuralaw05_PackBits.j2 k x0 x3 x5 bt393.1 bt393.2 ((wrap64 (Int.tdiv (wrap64 (x5 + 7)) 8)) == (x3.length : Int))) else (caesuralaw05_PackBits.j2 k x0 x3 x5 bt393.1 bt393.2 false))) else ((caesuralaw05_wakes.f k).bind fun t392 => (some t392))
def caesuralaw05_PackBits.j2 : Nat → List Bool → List Int → Int → List Bool → Bool → Bool → Option (Bool)
  | 0, _, _, _, _, _, _ => none
  | k + 1, x0, x3, x5, x6, x7, x8 => caesuralaw05_PackBits.l2 k x0 x3 x5 x6 x7 x8 x5
def caesuralaw05_PackBits.l2 : Nat → List Bool → List Int → Int → List Bool → Bool → Bool → Int → Option (Bool)
  | 0, _, _, _, _, _, _, _ => none
  | k + 1, x0, x3, x5, x6, x7, x8, x9 => if x9 < (x0.length : Int) then (if x8 = true then (if 0 ≤ x9 then (caesuralaw05_PackBits.l2 k x0 x3 x5 x6 x7 (!(rdOf false x0 x9)) (wrap64 (x9 + 1))) else (none)) else (if (x7 != x8) = true then (none) else (if x7 = true then (if (x6.length : Int) = x5 then (caesuralaw05_PackBits.l1 k x0 x3 (wrap64 (x5 + 1))) else (none)) else (if (x6.length : Int) = 0 then (caesuralaw05_PackBits.l1 k x0 x3 (wrap64 (x5 + 1))) else (none))))) else (if (x7 != x8) = true then (none) else (if x7 = true then (if (x6.length : Int) = x5 then (caesuralaw05_PackBits.l1 k x0 x3 (wrap64 (x5 + 1))) else (none)) else (if (x6.length : Int) = 0 then (caesuralaw05_PackBits.l1 k x0 x3 (wrap64 (x5 + 1))) else (none))))
end
def caesuralaw05_PackBits.f (k : Nat) (l0 : List Bool) : Option (Bool) := if (l0.length : Int) > 300 then ((caesuralaw05_wakes.f k).bind fun t386 => (some t386)) else ((pack_Bits.f k l0).bind fun t387 => (if (t387.length : Int) = (wrap64 (Int.tdiv (wrap64 ((l0.length : Int) + 7)) 8)) then (caesuralaw05_PackBits.l0 k l0 t387 0) else (none)))
theorem caesuralaw05_PackBits.mono_l : ∀ k, (∀ y0 y1 y2, LeO (caesuralaw05_PackBits.l0 k y0 y1 y2) (caesuralaw05_PackBits.l0 (k + 1) y0 y1 y2)) ∧ (∀ y0 y1 y2, LeO (caesuralaw05_PackBits.l1 k y0 y1 y2) (caesuralaw05_PackBits.l1 (k + 1) y0 y1 y2)) ∧ (∀ y0 y1 y2 y3 y4 y5, LeO (caesuralaw05_PackBits.j2 k y0 y1 y2 y3 y4 y5) (caesuralaw05_PackBits.j2 (k + 1) y0 y1 y2 y3 y4 y5)) ∧ (∀ y0 y1 y2 y3 y4 y5 y6, LeO (caesuralaw05_PackBits.l2 k y0 y1 y2 y3 y4 y5 y6) (caesuralaw05_PackBits.l2 (k + 1) y0 y1 y2 y3 y4 y5 y6))
  | 0 => ⟨fun _ _ _ r h => by simp [caesuralaw05_PackBits.l0] at h, fun _ _ _ r h => by simp [caesuralaw05_PackBits.l1] at h, fun _ _ _ _ _ _ r h => by simp [caesuralaw05_PackBits.j2] at h, fun _ _ _ _ _ _ _ r h => by simp [caesuralaw05_PackBits.l2] at h⟩
  | k + 1 => by
    obtain ⟨ih0, ih1, ih2, ih3⟩ := caesuralaw05_PackBits.mono_l k
    refine ⟨?_, ?_, ?_, ?_⟩
    · intro y0 y1 y2
      unfold caesuralaw05_PackBits.l0
      repeat' first
      | (with_reducible exact ih0 _ _ _)
      | (with_reducible exact ih1 _ _ _)
      | (with_reducible exact ih2 _ _ _ _ _ _)
      | (with_reducible exact ih3 _ _ _ _ _ _ _)
      | (with_reducible exact caesuralaw05_wakes.mono _)
      | (with_reducible exact pack_Bits.mono _ _)
      | (with_reducible exact pack_Unbits.mono _ _ _)
      | (with_reducible exact LeO.refl _)
      | (with_reducible exact LeO.none _)
      | (with_reducible refine LeO.ite ?_ ?_)
      | (with_reducible refine LeO.bind ?_ (fun _ => ?_))
      | exact ih0 _ _ _
      | exact ih1 _ _ _
      | exact ih2 _ _ _ _ _ _
      | exact ih3 _ _ _ _ _ _ _
      | exact caesuralaw05_wakes.mono _
      | exact pack_Bits.mono _ _
      | exact pack_Unbits.mono _ _ _
      | exact LeO.none _
      | refine LeO.ite ?_ ?_
      | refine LeO.bind ?_ (fun _ => ?_)
    · intro y0 y1 y2
      unfold caesuralaw05_PackBits.l1
      repeat' first
      | (with_reducible exact ih0 _ _ _)
      | (with_reducible exact ih1 _ _ _)
      | (with_reducible exact ih2 _ _ _ _ _ _)
      | (with_reducible exact ih3 _ _ _ _ _ _ _)
      | (with_reducible exact caesuralaw05_wakes.mono _)
      | (with_reducible exact pack_Bits.mono _ _)
      | (with_reducible exact pack_Unbits.mono _ _ _)
      | (with_reducible exact LeO.refl _)
      | (with_reducible exact LeO.none _)
      | (with_reducible refine LeO.ite ?_ ?_)
      | (with_reducible refine LeO.bind ?_ (fun _ => ?_))
      | exact ih0 _ _ _
      | exact ih1 _ _ _
      | exact ih2 _ _ _ _ _ _
      | exact ih3 _ _ _ _ _ _ _
      | exact caesuralaw05_wakes.mono _
      | exact pack_Bits.mono _ _
      | exact pack_Unbits.mono _ _ _
      | exact LeO.none _
      | refine LeO.ite ?_ ?_
      | refine LeO.bind ?_ (fun _ => ?_)
    · intro y0 y1 y2 y3 y4 y5
      unfold caesuralaw05_PackBits.j2
      repeat' first
      | (with_reducible exact ih0 _ _ _)
      | (with_reducible exact ih1 _ _ _)
      | (with_reducible exact ih2 _ _ _ _ _ _)
      | (with_reducible exact ih3 _ _ _ _ _ _ _)
      | (with_reducible exact caesuralaw05_wakes.mono _)
      | (with_reducible exact pack_Bits.mono _ _)
      | (with_reducible exact pack_Unbits.mono _ _ _)
      | (with_reducible exact LeO.refl _)
      | (with_reducible exact LeO.none _)
      | (with_reducible refine LeO.ite ?_ ?_)
      | (with_reducible refine LeO.bind ?_ (fun _ => ?_))
      | exact ih0 _ _ _
      | exact ih1 _ _ _
      | exact ih2 _ _ _ _ _ _
      | exact ih3 _ _ _ _ _ _ _
      | exact caesuralaw05_wakes.mono _
      | exact pack_Bits.mono _ _
      | exact pack_Unbits.mono _ _ _
      | exact LeO.none _
      | refine LeO.ite ?_ ?_
      | refine LeO.bind ?_ (fun _ => ?_)
    · intro y0 y1 y2 y3 y4 y5 y6
      unfold caesuralaw05_PackBits.l2
      repeat' first
      | (with_reducible exact ih0 _ _ _)
      | (with_reducible exact ih1 _ _ _)
      | (with_reducible exact ih2 _ _ _ _ _ _)
      | (with_reducible exact ih3 _ _ _ _ _ _ _)
      | (with_reducible exact caesuralaw05_wakes.mono _)
      | (with_reducible exact pack_Bits.mono _ _)
      | (with_reducible exact pack_Unbits.mono _ _ _)
      | (with_reducible exact LeO.refl _)
      | (with_reducible exact LeO.none _)
      | (with_reducible refine LeO.ite ?_ ?_)
      | (with_reducible refine LeO.bind ?_ (fun _ => ?_))
      | exact ih0 _ _ _
      | exact ih1 _ _ _
      | exact ih2 _ _ _ _ _ _
      | exact ih3 _ _ _ _ _ _ _
      | exact caesuralaw05_wakes.mono _
      | exact pack_Bits.mono _ _
      | exact pack_Unbits.mono _ _ _
      | exact LeO.none _
      | refine LeO.ite ?_ ?_
      | refine LeO.bind ?_ (fun _ => ?_)
theorem caesuralaw05_PackBits.mono : ∀ a0 k, LeO (caesuralaw05_PackBits.f k a0) (caesuralaw05_PackBits.f (k + 1) a0) := by
  intro a0 k
  obtain ⟨ih0, ih1, ih2, ih3⟩ := caesuralaw05_PackBits.mono_l k
  unfold caesuralaw05_PackBits.f
  repeat' first
      | (with_reducible exact ih0 _ _ _)
      | (with_reducible exact ih1 _ _ _)
      | (with_reducible exact ih2 _ _ _ _ _ _)
      | (with_reducible exact ih3 _ _ _ _ _ _ _)
      | (with_reducible exact caesuralaw05_wakes.mono _)
      | (with_reducible exact pack_Bits.mono _ _)
      | (with_reducible exact pack_Unbits.mono _ _ _)
      | (with_reducible exact LeO.refl _)
      | (with_reducible exact LeO.none _)
      | (with_reducible refine LeO.ite ?_ ?_)
      | (with_reducible refine LeO.bind ?_ (fun _ => ?_))
      | exact ih0 _ _ _
      | exact ih1 _ _ _
      | exact ih2 _ _ _ _ _ _
      | exact ih3 _ _ _ _ _ _ _
      | exact caesuralaw05_wakes.mono _
      | exact pack_Bits.mono _ _
      | exact pack_Unbits.mono _ _ _
      | exact LeO.none _
      | refine LeO.ite ?_ ?_
      | refine LeO.bind ?_ (fun _ => ?_)
set_option maxHeartbeats 8000000 in
set_option maxRecDepth 100000 in
theorem caesuralaw05_PackBits.calls (k : Nat) (A0 : Option Addr) (c0 : Nat) (l0 : List Bool) (r : Bool) (w : World) (hr0 : Kd.C Kd.bool w A0 l0.length l0) (hc0 : l0.length ≤ c0) (h : caesuralaw05_PackBits.f k l0 = some r) :
    Calls Try.prog 11 #[.slice A0 l0.length c0] w fun e w' => e = .returned (.bool r) ∧ Below w.heap.size w w' := by
  have HR0 := Aside0.mk hr0
  have HC0 := Aside0.mk hc0
  clear hr0 hc0
  have HB := Aside0.mk (Below.refl w.heap.size w)
  have H : (if (l0.length : Int) > 300 then ((caesuralaw05_wakes.f k).bind fun t386 => (some t386)) else ((pack_Bits.f k l0).bind fun t387 => (if (t387.length : Int) = (wrap64 (Int.tdiv (wrap64 ((l0.length : Int) + 7)) 8)) then (caesuralaw05_PackBits.l0 k l0 t387 0) else (none)))) = some r := h
  clear h
  by_cases c2 : (l0.length : Int) > 300
  · rw [if_pos c2] at H
    have c2b0 : decide (300 < (l0.length : Int)) = true := decide_eq_true c2
    have c2b1 : decide (300 < l0.length) = true := decide_eq_true (by omega)
    clear c2
    replace H := Option.bind_eq_some_iff.mp H
    obtain ⟨t386, A30, H⟩ := H
    replace H : (some t386) = some r := H
    have A3 := Aside0.mk A30
    clear A30
    obtain rfl := Option.some.inj H
    go_enter Try.func11, Try.ntmps11
    go_wp2_with (first | (go_at_call 24; (with_reducible refine (caesuralaw05_wakes.calls k  t386 _ A3.out).mono ?_); rintro e w4 ⟨rfl, hb⟩; have n0_ := Aside0.mk (below_step (by repeat (first | (with_reducible first | exact HB.out | apply below_alloc | apply pw_below_drewN | apply below_drew1) | exact HB.out)) hb); clear HB; have HB := n0_; clear n0_; (try clear hb); (try clear hb2); (try clear hk); (try clear hi)))
    repeat (go_quiet (first | (go_at_call 24; (with_reducible refine (caesuralaw05_wakes.calls k  t386 _ A3.out).mono ?_); rintro e w4 ⟨rfl, hb⟩; have n0_ := Aside0.mk (below_step (by repeat (first | (with_reducible first | exact HB.out | apply below_alloc | apply pw_below_drewN | apply below_drew1) | exact HB.out)) hb); clear HB; have HB := n0_; clear n0_; (try clear hb); (try clear hb2); (try clear hk); (try clear hi))); try go_wp2_with (first | (go_at_call 24; (with_reducible refine (caesuralaw05_wakes.calls k  t386 _ A3.out).mono ?_); rintro e w4 ⟨rfl, hb⟩; have n0_ := Aside0.mk (below_step (by repeat (first | (with_reducible first | exact HB.out | apply below_alloc | apply pw_below_drewN | apply below_drew1) | exact HB.out)) hb); clear HB; have HB := n0_; clear n0_; (try clear hb); (try clear hb2); (try clear hk); (try clear hi))))
    go_ret
    exact ⟨by first | rfl | (simp [errW_none, errW_some] <;> rfl) | (simp [*, errW_none, errW_some] <;> rfl), by repeat (first | (with_reducible first | exact HB.out | apply below_alloc | apply pw_below_drewN | apply below_drew1) | exact HB.out)⟩
  · rw [if_neg c2] at H
    have c2b0 : decide (300 < (l0.length : Int)) = false := decide_eq_false c2
    have c2b1 : decide (300 < l0.length) = false := decide_eq_false (by omega)
    clear c2
    replace H := Option.bind_eq_some_iff.mp H
    obtain ⟨t387, A50, H⟩ := H
    replace H : (if (t387.length : Int) = (wrap64 (Int.tdiv (wrap64 ((l0.length : Int) + 7)) 8)) then (caesuralaw05_PackBits.l0 k l0 t387 0) else (none)) = some r := H
    have A5 := Aside0.mk A50
    clear A50
    by_cases c6 : (t387.length : Int) = (wrap64 (Int.tdiv (wrap64 ((l0.length : Int) + 7)) 8))
    · rw [if_pos c6] at H
      have c6b0 : ((t387.length : Int) == (wrap64 (Int.tdiv (wrap64 ((l0.length : Int) + 7)) 8))) = true := beq_iff_eq.mpr c6
      have c6b1 : ((t387.length : Int) != (wrap64 (Int.tdiv (wrap64 ((l0.length : Int) + 7)) 8))) = false := bne_eq_false_iff_eq.mpr c6
      clear c6
      have H' := Aside0.mk H
      clear H
      go_enter Try.func11, Try.ntmps11
      go_wp2_with (first | (go_at_call 34; (with_reducible refine (pack_Bits.calls k _ _ l0 t387 _ ?side1 ?side2 A5.out).mono ?_); (case side1 => repeat (first | exact HR0.out | (with_reducible refine Kd.C_alloc ?_ _) | (with_reducible refine Kd.C_drewN ?_ _) | (with_reducible refine Kd.C_drew ?_))); (case side2 => exact HC0.out); rintro e w7 ⟨v388, rfl, ho0, hb⟩; have n0_ := Aside0.mk (Kd.R_lower ho0 (below_size (by repeat (first | (with_reducible first | exact HB.out | apply below_alloc | apply pw_below_drewN | apply below_drew1) | exact HB.out)))); have n1_ := Aside0.mk (below_step (by repeat (first | (with_reducible first | exact HB.out | apply below_alloc | apply pw_below_drewN | apply below_drew1) | exact HB.out)) hb); clear HB; have HO389 := n0_; have HB := n1_; clear n0_ n1_; (try clear hb); (try clear hb2); (try clear hk); (try clear hi); (try clear ho0); obtain ⟨Ao8, co8, eo8⟩ := Kd.R_slice HO389.out; subst eo8))
      repeat (go_quiet (first | (go_at_call 34; (with_reducible refine (pack_Bits.calls k _ _ l0 t387 _ ?side1 ?side2 A5.out).mono ?_); (case side1 => repeat (first | exact HR0.out | (with_reducible refine Kd.C_alloc ?_ _) | (with_reducible refine Kd.C_drewN ?_ _) | (with_reducible refine Kd.C_drew ?_))); (case side2 => exact HC0.out); rintro e w7 ⟨v388, rfl, ho0, hb⟩; have n0_ := Aside0.mk (Kd.R_lower ho0 (below_size (by repeat (first | (with_reducible first | exact HB.out | apply below_alloc | apply pw_below_drewN | apply below_drew1) | exact HB.out)))); have n1_ := Aside0.mk (below_step (by repeat (first | (with_reducible first | exact HB.out | apply below_alloc | apply pw_below_drewN | apply below_drew1) | exact HB.out)) hb); clear HB; have HO389 := n0_; have HB := n1_; clear n0_ n1_; (try clear hb); (try clear hb2); (try clear hk); (try clear hi); (try clear ho0); obtain ⟨Ao8, co8, eo8⟩ := Kd.R_slice HO389.out; subst eo8)); try go_wp2_with (first | (go_at_call 34; (with_reducible refine (pack_Bits.calls k _ _ l0 t387 _ ?side1 ?side2 A5.out).mono ?_); (case side1 => repeat (first | exact HR0.out | (with_reducible refine Kd.C_alloc ?_ _) | (with_reducible refine Kd.C_drewN ?_ _) | (with_reducible refine Kd.C_drew ?_))); (case side2 => exact HC0.out); rintro e w7 ⟨v388, rfl, ho0, hb⟩; have n0_ := Aside0.mk (Kd.R_lower ho0 (below_size (by repeat (first | (with_reducible first | exact HB.out | apply below_alloc | apply pw_below_drewN | apply below_drew1) | exact HB.out)))); have n1_ := Aside0.mk (below_step (by repeat (first | (with_reducible first | exact HB.out | apply below_alloc | apply pw_below_drewN | apply below_drew1) | exact HB.out)) hb); clear HB; have HO389 := n0_; have HB := n1_; clear n0_ n1_; (try clear hb); (try clear hb2); (try clear hk); (try clear hi); (try clear ho0); obtain ⟨Ao8, co8, eo8⟩ := Kd.R_slice HO389.out; subst eo8)))
      go_loopg [4] k (fun kq v4 w' => ∃ (x4_1 : Int), v4 = .int .i64 x4_1 ∧ Aside0 (caesuralaw05_PackBits.l0 kq l0 t387 x4_1 = some r) ∧ Aside0 (kq ≤ k) ∧ Aside0 (Kd.R (Kd.int .u8) 5 w' w.heap.size (fun _ => True) (.slice Ao8 t387.length co8) t387) ∧ Aside0 (Below w.heap.size w w'))
      case atStart => exact ⟨(0), (by first | rfl | (simp; done) | (simp [*]; done)), H', ⟨Nat.le_refl _⟩, ⟨by (with_reducible repeat (first | apply Kd.R_alloc | apply Kd.R_drewN | apply Kd.R_drew)); exact HO389.out⟩, ⟨by repeat (first | (with_reducible first | exact HB.out | apply below_alloc | apply pw_below_drewN | apply below_drew1) | exact HB.out)⟩⟩
      case round =>
        clear H'
        try clear c1
        try clear c2
        try clear c2b0
        try clear c2b1
        try clear p2
        try clear c6
        try clear c6b0
        try clear c6b1
        try clear p6
        obtain ⟨x4_1, rfl, HA, HK1, HO_3, HB⟩ := hrel
        cases gk with
        | zero => exact absurd HA.out (by simp [caesuralaw05_PackBits.l0])
        | succ k1 =>
          have H := HA.out
          clear HA
          simp only [caesuralaw05_PackBits.l0] at H
          by_cases c9 : x4_1 < (wrap64 (8 * (t387.length : Int)))
          · rw [if_pos c9] at H
            have c9b0 : decide (x4_1 < (wrap64 (8 * (t387.length : Int)))) = true := decide_eq_true c9
            clear c9
            obtain ⟨ji10, hji10⟩ : ∃ j_ : Int, (x4_1 / 8) = j_ := ⟨_, rfl⟩
            replace H : (if 0 ≤ (ji10) then (if (ji10) < (t387.length : Int) then (if 0 ≤ (IntKind.u64.wrap (Go.bits .and .i64 x4_1 7)) then (if x4_1 < (l0.length : Int) then (if 0 ≤ x4_1 then (if (((Go.bits .and .u8 (shr .u8 (rd t387 (ji10)) (IntKind.u64.wrap (Go.bits .and .i64 x4_1 7))) 1) == 1) != (rdOf false l0 x4_1)) = true then (none) else (caesuralaw05_PackBits.l0 k1 l0 t387 (wrap64 (x4_1 + 1)))) else (none)) else (if (((Go.bits .and .u8 (shr .u8 (rd t387 (ji10)) (IntKind.u64.wrap (Go.bits .and .i64 x4_1 7))) 1) == 1) != false) = true then (none) else (caesuralaw05_PackBits.l0 k1 l0 t387 (wrap64 (x4_1 + 1))))) else (none)) else (none)) else (none)) = some r := by first | (rw [hji10] at H; exact H) | (simp only [hji10] at H ⊢; exact H)
            by_cases c11 : 0 ≤ (ji10)
            · rw [if_pos c11] at H
              have c11b0 : decide (0 ≤ (ji10)) = true := decide_eq_true c11
              clear c11
              by_cases c12 : (ji10) < (t387.length : Int)
              · rw [if_pos c12] at H
                have c12b0 : decide ((ji10) < (t387.length : Int)) = true := decide_eq_true c12
                clear c12
                obtain ⟨ji13, hji13⟩ : ∃ j_ : Int, (IntKind.u64.wrap (Go.bits .and .i64 x4_1 7)) = j_ := ⟨_, rfl⟩
                replace H : (if 0 ≤ (ji13) then (if x4_1 < (l0.length : Int) then (if 0 ≤ x4_1 then (if (((Go.bits .and .u8 (shr .u8 (rd t387 (ji10)) (ji13)) 1) == 1) != (rdOf false l0 x4_1)) = true then (none) else (caesuralaw05_PackBits.l0 k1 l0 t387 (wrap64 (x4_1 + 1)))) else (none)) else (if (((Go.bits .and .u8 (shr .u8 (rd t387 (ji10)) (ji13)) 1) == 1) != false) = true then (none) else (caesuralaw05_PackBits.l0 k1 l0 t387 (wrap64 (x4_1 + 1))))) else (none)) = some r := by first | (rw [hji13] at H; exact H) | (simp only [hji13] at H ⊢; exact H)
                by_cases c14 : 0 ≤ (ji13)
                · rw [if_pos c14] at H
                  have c14b0 := eq_true c14
                  have c14b1 : decide (0 ≤ (ji13)) = true := decide_eq_true c14
                  clear c14
                  obtain ⟨ji15, hji15⟩ : ∃ j_ : Int, (shr .u8 (rd t387 (ji10)) (ji13)) = j_ := ⟨_, rfl⟩
                  replace H : (if x4_1 < (l0.length : Int) then (if 0 ≤ x4_1 then (if (((Go.bits .and .u8 (ji15) 1) == 1) != (rdOf false l0 x4_1)) = true then (none) else (caesuralaw05_PackBits.l0 k1 l0 t387 (wrap64 (x4_1 + 1)))) else (none)) else (if (((Go.bits .and .u8 (ji15) 1) == 1) != false) = true then (none) else (caesuralaw05_PackBits.l0 k1 l0 t387 (wrap64 (x4_1 + 1))))) = some r := by first | (rw [hji15] at H; exact H) | (simp only [hji15] at H ⊢; exact H)
                  have hji15_ : ((rd t387 (ji10)) / 2 ^ min (ji13).toNat 8) = ji15 := hji15
                  have hji15z : (ji13) ≤ 8 → ((rd t387 (ji10)) / 2 ^ (ji13).toNat) = ji15 := shr_small hji15
                  by_cases c16 : x4_1 < (l0.length : Int)
                  · rw [if_pos c16] at H
                    have c16b0 : decide (x4_1 < (l0.length : Int)) = true := decide_eq_true c16
                    clear c16
                    by_cases c17 : 0 ≤ x4_1
                    · rw [if_pos c17] at H
                      have c17b0 : decide (0 ≤ x4_1) = true := decide_eq_true c17
                      clear c17
                      by_cases c18 : (((Go.bits .and .u8 (ji15) 1) == 1) != (rdOf false l0 x4_1)) = true
                      · rw [if_pos c18] at H
                        exact absurd H (by simp)
                      · rw [if_neg c18] at H
                        have c18b0 : (((Go.bits .and .u8 (ji15) 1) == 1) != (rdOf false l0 x4_1)) = false := by simpa using c18
                        (try (have c18b1 : decide (((Go.bits .and .u8 (ji15) 1) == 1) = (rdOf false l0 x4_1)) = true := by simpa using c18))
                        (try (have c18b2 : (((Go.bits .and .u8 (ji15) 1) == 1) == (rdOf false l0 x4_1)) = true := by simpa using c18))
                        clear c18
                        have H' := Aside0.mk H
                        clear H
                        have p390 : 0 ≤ ((ji10) : Int) := of_decide_eq_true (by first | (with_reducible assumption) | assumption)
                        have q390 : (ji10) < (t387.length : Int) := of_decide_eq_true (by first | (with_reducible assumption) | assumption)
                        obtain ⟨ad390, e390, hx390_0⟩ := Kd.at_int (Kd.R_reads' HO_3.out).2.2 (ji10) p390 q390
                        cases e390
                        replace p390 := eq_true p390
                        replace q390 := eq_true q390
                        have p391 : 0 ≤ (x4_1 : Int) := of_decide_eq_true (by first | (with_reducible assumption) | assumption)
                        have q391 : x4_1 < (l0.length : Int) := of_decide_eq_true (by first | (with_reducible assumption) | assumption)
                        obtain ⟨ad391, e391, hx391_0⟩ := Kd.at_bool HR0.out x4_1 p391 q391
                        cases e391
                        replace hx391_0 := (HB.out.cell (World.block_lt_of_cell? w _ hx391_0)).trans hx391_0
                        replace p391 := eq_true p391
                        replace q391 := eq_true q391
                        go_wp2
                        repeat (go_quiet (fail); try go_wp2)
                        go_roundg k1
                        case measure => have := HK1.out; omega
                        case rel => exact ⟨(wrap64 (x4_1 + 1)), (by first | rfl | (simp; done) | (simp [*]; done)), H', ⟨by have := HK1.out; omega⟩, ⟨by (with_reducible repeat (first | apply Kd.R_alloc | apply Kd.R_drewN | apply Kd.R_drew)); exact HO_3.out⟩, ⟨by repeat (first | (with_reducible first | exact HB.out | apply below_alloc | apply pw_below_drewN | apply below_drew1) | exact HB.out)⟩⟩
                    · rw [if_neg c17] at H
                      exact absurd H (by simp)
                  · rw [if_neg c16] at H
                    have c16b0 : decide (x4_1 < (l0.length : Int)) = false := decide_eq_false c16
                    clear c16
                    by_cases c19 : (((Go.bits .and .u8 (ji15) 1) == 1) != false) = true
                    · rw [if_pos c19] at H
                      exact absurd H (by simp)
                    · rw [if_neg c19] at H
                      have c19b0 : (((Go.bits .and .u8 (ji15) 1) == 1) != false) = false := by simpa using c19
                      (try (have c19b1 : decide (((Go.bits .and .u8 (ji15) 1) == 1) = false) = true := by simpa using c19))
                      (try (have c19b2 : (((Go.bits .and .u8 (ji15) 1) == 1) == false) = true := by simpa using c19))
                      clear c19
                      have H' := Aside0.mk H
                      clear H
                      have p390 : 0 ≤ ((ji10) : Int) := of_decide_eq_true (by first | (with_reducible assumption) | assumption)
                      have q390 : (ji10) < (t387.length : Int) := of_decide_eq_true (by first | (with_reducible assumption) | assumption)
                      obtain ⟨ad390, e390, hx390_0⟩ := Kd.at_int (Kd.R_reads' HO_3.out).2.2 (ji10) p390 q390
                      cases e390
                      replace p390 := eq_true p390
                      replace q390 := eq_true q390
                      go_wp2
                      repeat (go_quiet (fail); try go_wp2)
                      go_roundg k1
                      case measure => have := HK1.out; omega
                      case rel => exact ⟨(wrap64 (x4_1 + 1)), (by first | rfl | (simp; done) | (simp [*]; done)), H', ⟨by have := HK1.out; omega⟩, ⟨by (with_reducible repeat (first | apply Kd.R_alloc | apply Kd.R_drewN | apply Kd.R_drew)); exact HO_3.out⟩, ⟨by repeat (first | (with_reducible first | exact HB.out | apply below_alloc | apply pw_below_drewN | apply below_drew1) | exact HB.out)⟩⟩
                · rw [if_neg c14] at H
                  exact absurd H (by simp)
              · rw [if_neg c12] at H
                exact absurd H (by simp)
            · rw [if_neg c11] at H
              exact absurd H (by simp)
          · rw [if_neg c9] at H
            have c9b0 : decide (x4_1 < (wrap64 (8 * (t387.length : Int)))) = false := decide_eq_false c9
            clear c9
            have H' := Aside0.mk H
            clear H
            go_wp2
            repeat (go_quiet (fail); try go_wp2)
            go_loopg [5] k1 (fun kq v5 w' => ∃ (x5_2 : Int), v5 = .int .i64 x5_2 ∧ Aside0 (caesuralaw05_PackBits.l1 kq l0 t387 x5_2 = some r) ∧ Aside0 (kq ≤ k1) ∧ Aside0 (Kd.R (Kd.int .u8) 5 w' w.heap.size (fun _ => True) (.slice Ao8 t387.length co8) t387) ∧ Aside0 (Below w.heap.size w w'))
            case atStart => exact ⟨(wrap64 ((l0.length : Int) - 9)), (by first | rfl | (simp; done) | (simp [*]; done)), H', ⟨Nat.le_refl _⟩, ⟨by (with_reducible repeat (first | apply Kd.R_alloc | apply Kd.R_drewN | apply Kd.R_drew)); exact HO_3.out⟩, ⟨by repeat (first | (with_reducible first | exact HB.out | apply below_alloc | apply pw_below_drewN | apply below_drew1) | exact HB.out)⟩⟩
            case round =>
              clear H'
              try clear c1
              try clear c2
              try clear c2b0
              try clear c2b1
              try clear p2
              try clear p3
              try clear q3
              try clear hx3
              try clear c6
              try clear c6b0
              try clear c6b1
              try clear p6
              try clear c9
              try clear c9b0
              try clear c11
              try clear c11b0
              try clear c12
              try clear c12b0
              try clear c14
              try clear c14b0
              try clear c14b1
              try clear c16
              try clear c16b0
              try clear c17
              try clear c17b0
              try clear c18
              try clear c18b0
              try clear c18b1
              try clear c18b2
              try clear c19
              try clear c19b0
              try clear c19b1
              try clear c19b2
              try clear hx390_0
              try clear hx391_0
              try clear p2
              try clear p390
              try clear p391
              try clear p6
              try clear q390
              try clear q391
              obtain ⟨x5_2, rfl, HA, HK2, HO_3, HB⟩ := hrel
              cases gk with
              | zero => exact absurd HA.out (by simp [caesuralaw05_PackBits.l1])
              | succ k2 =>
                have H := HA.out
                clear HA
                simp only [caesuralaw05_PackBits.l1] at H
                by_cases c20 : x5_2 ≤ (wrap64 ((l0.length : Int) + 9))
                · rw [if_pos c20] at H
                  have c20b0 : decide (x5_2 ≤ (wrap64 ((l0.length : Int) + 9))) = true := decide_eq_true c20
                  clear c20
                  replace H := Option.bind_eq_some_iff.mp H
                  obtain ⟨⟨t393, t394⟩, A210, H⟩ := H
                  replace H : (if x5_2 ≥ 0 then (caesuralaw05_PackBits.j2 k2 l0 t387 x5_2 t393 t394 ((wrap64 (Int.tdiv (wrap64 (x5_2 + 7)) 8)) == (t387.length : Int))) else (caesuralaw05_PackBits.j2 k2 l0 t387 x5_2 t393 t394 false)) = some r := H
                  have A21 := Aside0.mk A210
                  clear A210
                  have HC22 := Aside0.mk H
                  clear H
                  go_upto_region 15 with (first | (go_at_call 27; (with_reducible refine (pack_Unbits.calls k2 _ _ t387 x5_2 t393 t394 _ ?side1 ?side2 A21.out).mono ?_); (case side1 => repeat (first | exact (Kd.R_reads' HO_3.out).2.2 | (with_reducible refine Kd.C_alloc ?_ _) | (with_reducible refine Kd.C_drewN ?_ _) | (with_reducible refine Kd.C_drew ?_))); (case side2 => exact (Kd.R_reads' HO_3.out).2.1); rintro e w23 ⟨v395, rfl, ho0, hb⟩; have n0_ := Aside0.mk (Kd.R_below (by (with_reducible repeat (first | apply Kd.R_alloc | apply Kd.R_drewN | apply Kd.R_drew)); exact HO_3.out) hb); have n1_ := Aside0.mk (Kd.R_lower ho0 (below_size (by repeat (first | (with_reducible first | exact HB.out | apply below_alloc | apply pw_below_drewN | apply below_drew1) | exact HB.out)))); have n2_ := Aside0.mk (below_step (by repeat (first | (with_reducible first | exact HB.out | apply below_alloc | apply pw_below_drewN | apply below_drew1) | exact HB.out)) hb); clear HO_3; clear HB; have HO_3 := n0_; have HO396 := n1_; have HB := n2_; clear n0_ n1_ n2_; (try clear hb); (try clear hb2); (try clear hk); (try clear hi); (try clear ho0)))
                  repeat (go_quiet (first | (go_at_call 27; (with_reducible refine (pack_Unbits.calls k2 _ _ t387 x5_2 t393 t394 _ ?side1 ?side2 A21.out).mono ?_); (case side1 => repeat (first | exact (Kd.R_reads' HO_3.out).2.2 | (with_reducible refine Kd.C_alloc ?_ _) | (with_reducible refine Kd.C_drewN ?_ _) | (with_reducible refine Kd.C_drew ?_))); (case side2 => exact (Kd.R_reads' HO_3.out).2.1); rintro e w23 ⟨v395, rfl, ho0, hb⟩; have n0_ := Aside0.mk (Kd.R_below (by (with_reducible repeat (first | apply Kd.R_alloc | apply Kd.R_drewN | apply Kd.R_drew)); exact HO_3.out) hb); have n1_ := Aside0.mk (Kd.R_lower ho0 (below_size (by repeat (first | (with_reducible first | exact HB.out | apply below_alloc | apply pw_below_drewN | apply below_drew1) | exact HB.out)))); have n2_ := Aside0.mk (below_step (by repeat (first | (with_reducible first | exact HB.out | apply below_alloc | apply pw_below_drewN | apply below_drew1) | exact HB.out)) hb); clear HO_3; clear HB; have HO_3 := n0_; have HO396 := n1_; have HB := n2_; clear n0_ n1_ n2_; (try clear hb); (try clear hb2); (try clear hk); (try clear hi); (try clear ho0))); go_upto_region 15 with (first | (go_at_call 27; (with_reducible refine (pack_Unbits.calls k2 _ _ t387 x5_2 t393 t394 _ ?side1 ?side2 A21.out).mono ?_); (case side1 => repeat (first | exact (Kd.R_reads' HO_3.out).2.2 | (with_reducible refine Kd.C_alloc ?_ _) | (with_reducible refine Kd.C_drewN ?_ _) | (with_reducible refine Kd.C_drew ?_))); (case side2 => exact (Kd.R_reads' HO_3.out).2.1); rintro e w23 ⟨v395, rfl, ho0, hb⟩; have n0_ := Aside0.mk (Kd.R_below (by (with_reducible repeat (first | apply Kd.R_alloc | apply Kd.R_drewN | apply Kd.R_drew)); exact HO_3.out) hb); have n1_ := Aside0.mk (Kd.R_lower ho0 (below_size (by repeat (first | (with_reducible first | exact HB.out | apply below_alloc | apply pw_below_drewN | apply below_drew1) | exact HB.out)))); have n2_ := Aside0.mk (below_step (by repeat (first | (with_reducible first | exact HB.out | apply below_alloc | apply pw_below_drewN | apply below_drew1) | exact HB.out)) hb); clear HO_3; clear HB; have HO_3 := n0_; have HO396 := n1_; have HB := n2_; clear n0_ n1_ n2_; (try clear hb); (try clear hb2); (try clear hk); (try clear hi); (try clear ho0))))
                  (try simp only [Act.put, List.setIfInBounds_toArray, List.set_cons_zero, List.set_cons_succ])
                  go_cut [8] (fun v8 wc => ∃ (kq : Nat) (x8_21 : Bool), v8 = .bool x8_21 ∧ Aside0 (caesuralaw05_PackBits.j2 kq l0 t387 x5_2 t393 t394 x8_21 = some r) ∧ Aside0 (kq ≤ k2) ∧ Aside0 (Kd.R (Kd.int .u8) 5 wc w.heap.size (fun _ => True) (.slice Ao8 t387.length co8) t387) ∧ Aside0 (Kd.R Kd.bool 4 wc w.heap.size (fun _ => True) v395 t393) ∧ Aside0 (Below w.heap.size w wc))
                  case first =>
                    have H := HC22.out
                    clear HC22
                    by_cases c24 : x5_2 ≥ 0
                    · rw [if_pos c24] at H
                      have c24b0 : decide (0 ≤ x5_2) = true := decide_eq_true c24
                      clear c24
                      (first | rw [c24b0] | (simp only [i64_w, i32_w]; rw [c24b0]) | skip)
                      have H' := Aside0.mk H
                      clear H
                      go_wp2
                      repeat (go_quiet (fail); try go_wp2)
                      go_meet
                      case rel => exact ⟨_, (((wrap64 (Int.tdiv (wrap64 (x5_2 + 7)) 8)) == (t387.length : Int))), (by first | rfl | (simp; done) | (simp [*]; done)), H', ⟨by have := HK1.out; have := HK2.out; first | omega | exact Nat.le_refl _⟩, ⟨by (with_reducible repeat (first | apply Kd.R_alloc | apply Kd.R_drewN | apply Kd.R_drew)); exact HO_3.out⟩, ⟨by (with_reducible repeat (first | apply Kd.R_alloc | apply Kd.R_drewN | apply Kd.R_drew)); exact HO396.out⟩, ⟨by repeat (first | (with_reducible first | exact HB.out | apply below_alloc | apply pw_below_drewN | apply below_drew1) | exact HB.out)⟩⟩
                    · rw [if_neg c24] at H
                      have c24b0 : decide (0 ≤ x5_2) = false := decide_eq_false c24
                      clear c24
                      (first | rw [c24b0] | (simp only [i64_w, i32_w]; rw [c24b0]) | skip)
                      have H' := Aside0.mk H
                      clear H
                      go_wp2
                      repeat (go_quiet (fail); try go_wp2)
                      go_meet
                      case rel => exact ⟨_, (false), (by first | rfl | (simp; done) | (simp [*]; done)), H', ⟨by have := HK1.out; have := HK2.out; first | omega | exact Nat.le_refl _⟩, ⟨by (with_reducible repeat (first | apply Kd.R_alloc | apply Kd.R_drewN | apply Kd.R_drew)); exact HO_3.out⟩, ⟨by (with_reducible repeat (first | apply Kd.R_alloc | apply Kd.R_drewN | apply Kd.R_drew)); exact HO396.out⟩, ⟨by repeat (first | (with_reducible first | exact HB.out | apply below_alloc | apply pw_below_drewN | apply below_drew1) | exact HB.out)⟩⟩
                  case rest =>
                    clear HC22
                    try clear c1
                    try clear c2
                    try clear c2b0
                    try clear c2b1
                    try clear p2
                    try clear p3
                    try clear q3
                    try clear hx3
                    try clear c6
                    try clear c6b0
                    try clear c6b1
                    try clear p6
                    try clear c9
                    try clear c9b0
                    try clear c11
                    try clear c11b0
                    try clear c12
                    try clear c12b0
                    try clear c14
                    try clear c14b0
                    try clear c14b1
                    try clear c16
                    try clear c16b0
                    try clear c17
                    try clear c17b0
                    try clear c18
                    try clear c18b0
                    try clear c18b1
                    try clear c18b2
                    try clear c19
                    try clear c19b0
                    try clear c19b1
                    try clear c19b2
                    try clear c20
                    try clear c20b0
                    try clear c24
                    try clear c24b0
                    try clear hx390_0
                    try clear hx391_0
                    try clear p2
                    try clear p3
                    try clear p390
                    try clear p391
                    try clear p6
                    try clear q3
                    try clear q390
                    try clear q391
                    obtain ⟨kq, x8_21, rfl, HA, HJ21, HO_3, HO_6, HB⟩ := hcut
                    cases kq with
                    | zero => exact absurd HA.out (by simp [caesuralaw05_PackBits.j2])
                    | succ kj21 =>
                      have H := HA.out
                      clear HA
                      simp only [caesuralaw05_PackBits.j2] at H
                      have H' := Aside0.mk H
                      clear H
                      go_wp2
                      repeat (go_quiet (fail); try go_wp2)
                      go_loopg [8, 9] kj21 (fun kq v8 v9 w' => ∃ (x8_4 : Bool) (x9_4 : Int), v8 = .bool x8_4 ∧ v9 = .int .i64 x9_4 ∧ Aside0 (caesuralaw05_PackBits.l2 kq l0 t387 x5_2 t393 t394 x8_4 x9_4 = some r) ∧ Aside0 (kq ≤ kj21) ∧ Aside0 (Kd.R (Kd.int .u8) 5 w' w.heap.size (fun _ => True) (.slice Ao8 t387.length co8) t387) ∧ Aside0 (Kd.R Kd.bool 4 w' w.heap.size (fun _ => True) v395 t393) ∧ Aside0 (Below w.heap.size w w'))
                      case atStart => exact ⟨(x8_21), (x5_2), (by first | rfl | (simp; done) | (simp [*]; done)), (by first | rfl | (simp; done) | (simp [*]; done)), H', ⟨Nat.le_refl _⟩, ⟨by (with_reducible repeat (first | apply Kd.R_alloc | apply Kd.R_drewN | apply Kd.R_drew)); exact HO_3.out⟩, ⟨by (with_reducible repeat (first | apply Kd.R_alloc | apply Kd.R_drewN | apply Kd.R_drew)); exact HO_6.out⟩, ⟨by repeat (first | (with_reducible first | exact HB.out | apply below_alloc | apply pw_below_drewN | apply below_drew1) | exact HB.out)⟩⟩
                      case round =>
                        clear H'
                        try clear c1
                        try clear c2
                        try clear c2b0
                        try clear c2b1
                        try clear p2
                        try clear p3
                        try clear q3
                        try clear hx3
                        try clear c6
                        try clear c6b0
                        try clear c6b1
                        try clear p6
                        try clear c9
                        try clear c9b0
                        try clear c11
                        try clear c11b0
                        try clear c12
                        try clear c12b0
                        try clear c14
                        try clear c14b0
                        try clear c14b1
                        try clear c16
                        try clear c16b0
                        try clear c17
                        try clear c17b0
                        try clear c18
                        try clear c18b0
                        try clear c18b1
                        try clear c18b2
                        try clear c19
                        try clear c19b0
                        try clear c19b1
                        try clear c19b2
                        try clear c20
                        try clear c20b0
                        try clear c24
                        try clear c24b0
                        try clear hx390_0
                        try clear hx391_0
                        try clear p2
                        try clear p3
                        try clear p390
                        try clear p391
                        try clear p6
                        try clear q3
                        try clear q390
                        try clear q391
                        obtain ⟨x8_4, x9_4, rfl, rfl, HA, HK4, HO_3, HO_6, HB⟩ := hrel
                        cases gk with
                        | zero => exact absurd HA.out (by simp [caesuralaw05_PackBits.l2])
                        | succ k4 =>
                          have H := HA.out
                          clear HA
                          simp only [caesuralaw05_PackBits.l2] at H
                          by_cases c25 : x9_4 < (l0.length : Int)
                          · rw [if_pos c25] at H
                            have c25b0 : decide (x9_4 < (l0.length : Int)) = true := decide_eq_true c25
                            clear c25
                            by_cases c26 : x8_4 = true
                            · subst c26
                              have H1 : (if 0 ≤ x9_4 then (caesuralaw05_PackBits.l2 k4 l0 t387 x5_2 t393 t394 (!(rdOf false l0 x9_4)) (wrap64 (x9_4 + 1))) else (none)) = some r := by rw [if_pos rfl] at H; exact H
                              clear H
                              have H := H1
                              clear H1
                              by_cases c27 : 0 ≤ x9_4
                              · rw [if_pos c27] at H
                                have c27b0 : decide (0 ≤ x9_4) = true := decide_eq_true c27
                                clear c27
                                have H' := Aside0.mk H
                                clear H
                                have p397 : 0 ≤ (x9_4 : Int) := of_decide_eq_true (by first | (with_reducible assumption) | assumption)
                                have q397 : x9_4 < (l0.length : Int) := of_decide_eq_true (by first | (with_reducible assumption) | assumption)
                                obtain ⟨ad397, e397, hx397_0⟩ := Kd.at_bool HR0.out x9_4 p397 q397
                                cases e397
                                replace hx397_0 := (HB.out.cell (World.block_lt_of_cell? w _ hx397_0)).trans hx397_0
                                replace p397 := eq_true p397
                                replace q397 := eq_true q397
                                go_wp2
                                repeat (go_quiet (fail); try go_wp2)
                                go_roundg k4
                                case measure => have := HK1.out; have := HK2.out; have := HJ21.out; have := HK4.out; omega
                                case rel => exact ⟨(!(rdOf false l0 x9_4)), (wrap64 (x9_4 + 1)), (by first | rfl | (simp; done) | (simp [*]; done)), (by first | rfl | (simp; done) | (simp [*]; done)), H', ⟨by have := HK1.out; have := HK2.out; have := HJ21.out; have := HK4.out; omega⟩, ⟨by (with_reducible repeat (first | apply Kd.R_alloc | apply Kd.R_drewN | apply Kd.R_drew)); exact HO_3.out⟩, ⟨by (with_reducible repeat (first | apply Kd.R_alloc | apply Kd.R_drewN | apply Kd.R_drew)); exact HO_6.out⟩, ⟨by repeat (first | (with_reducible first | exact HB.out | apply below_alloc | apply pw_below_drewN | apply below_drew1) | exact HB.out)⟩⟩
                              · rw [if_neg c27] at H
                                exact absurd H (by simp)
                            · replace c26 := Bool.eq_false_iff.mpr c26
                              subst c26
                              have H1 : (if (t394 != false) = true then (none) else (if t394 = true then (if (t393.length : Int) = x5_2 then (caesuralaw05_PackBits.l1 k4 l0 t387 (wrap64 (x5_2 + 1))) else (none)) else (if (t393.length : Int) = 0 then (caesuralaw05_PackBits.l1 k4 l0 t387 (wrap64 (x5_2 + 1))) else (none)))) = some r := by rw [if_neg (show ¬ (false = true) by decide)] at H; exact H
                              clear H
                              have H := H1
                              clear H1
                              by_cases c28 : (t394 != false) = true
                              · rw [if_pos c28] at H
                                exact absurd H (by simp)
                              · rw [if_neg c28] at H
                                have c28b0 : (t394 != false) = false := by simpa using c28
                                (try (have c28b1 : decide (t394 = false) = true := by simpa using c28))
                                (try (have c28b2 : (t394 == false) = true := by simpa using c28))
                                clear c28
                                by_cases c29 : t394 = true
                                · subst c29
                                  have H1 : (if (t393.length : Int) = x5_2 then (caesuralaw05_PackBits.l1 k4 l0 t387 (wrap64 (x5_2 + 1))) else (none)) = some r := by rw [if_pos rfl] at H; exact H
                                  clear H
                                  have H := H1
                                  clear H1
                                  by_cases c30 : (t393.length : Int) = x5_2
                                  · rw [if_pos c30] at H
                                    have c30b0 : ((t393.length : Int) == x5_2) = true := beq_iff_eq.mpr c30
                                    have c30b1 : ((t393.length : Int) != x5_2) = false := bne_eq_false_iff_eq.mpr c30
                                    clear c30
                                    have H' := Aside0.mk H
                                    clear H
                                    obtain ⟨Ao31, co31, eo31⟩ := Kd.R_slice HO_6.out
                                    subst eo31
                                    go_wp2
                                    repeat (go_quiet (fail); try go_wp2)
                                    go_roundg k4
                                    case measure => have := HK1.out; have := HK2.out; have := HJ21.out; have := HK4.out; omega
                                    case rel => exact ⟨(wrap64 (x5_2 + 1)), (by first | rfl | (simp; done) | (simp [*]; done)), H', ⟨by have := HK1.out; have := HK2.out; have := HJ21.out; have := HK4.out; omega⟩, ⟨by (with_reducible repeat (first | apply Kd.R_alloc | apply Kd.R_drewN | apply Kd.R_drew)); exact HO_3.out⟩, ⟨by repeat (first | (with_reducible first | exact HB.out | apply below_alloc | apply pw_below_drewN | apply below_drew1) | exact HB.out)⟩⟩
                                  · rw [if_neg c30] at H
                                    exact absurd H (by simp)
                                · replace c29 := Bool.eq_false_iff.mpr c29
                                  subst c29
                                  have H1 : (if (t393.length : Int) = 0 then (caesuralaw05_PackBits.l1 k4 l0 t387 (wrap64 (x5_2 + 1))) else (none)) = some r := by rw [if_neg (show ¬ (false = true) by decide)] at H; exact H
                                  clear H
                                  have H := H1
                                  clear H1
                                  by_cases c32 : (t393.length : Int) = 0
                                  · rw [if_pos c32] at H
                                    have c32b0 : ((t393.length : Int) == 0) = true := beq_iff_eq.mpr c32
                                    have c32b1 : ((t393.length : Int) != 0) = false := bne_eq_false_iff_eq.mpr c32
                                    clear c32
                                    have H' := Aside0.mk H
                                    clear H
                                    obtain ⟨Ao33, co33, eo33⟩ := Kd.R_slice HO_6.out
                                    subst eo33
                                    go_wp2
                                    repeat (go_quiet (fail); try go_wp2)
                                    go_roundg k4
                                    case measure => have := HK1.out; have := HK2.out; have := HJ21.out; have := HK4.out; omega
                                    case rel => exact ⟨(wrap64 (x5_2 + 1)), (by first | rfl | (simp; done) | (simp [*]; done)), H', ⟨by have := HK1.out; have := HK2.out; have := HJ21.out; have := HK4.out; omega⟩, ⟨by (with_reducible repeat (first | apply Kd.R_alloc | apply Kd.R_drewN | apply Kd.R_drew)); exact HO_3.out⟩, ⟨by repeat (first | (with_reducible first | exact HB.out | apply below_alloc | apply pw_below_drewN | apply below_drew1) | exact HB.out)⟩⟩
                                  · rw [if_neg c32] at H
                                    exact absurd H (by simp)
                          · rw [if_neg c25] at H
                            have c25b0 : decide (x9_4 < (l0.length : Int)) = false := decide_eq_false c25
                            clear c25
                            by_cases c34 : (t394 != x8_4) = true
                            · rw [if_pos c34] at H
                              exact absurd H (by simp)
                            · rw [if_neg c34] at H
                              have c34b0 : (t394 != x8_4) = false := by simpa using c34
                              (try (have c34b1 : decide (t394 = x8_4) = true := by simpa using c34))
                              (try (have c34b2 : (t394 == x8_4) = true := by simpa using c34))
                              clear c34
                              by_cases c35 : t394 = true
                              · subst c35
                                have H1 : (if (t393.length : Int) = x5_2 then (caesuralaw05_PackBits.l1 k4 l0 t387 (wrap64 (x5_2 + 1))) else (none)) = some r := by rw [if_pos rfl] at H; exact H
                                clear H
                                have H := H1
                                clear H1
                                by_cases c36 : (t393.length : Int) = x5_2
                                · rw [if_pos c36] at H
                                  have c36b0 : ((t393.length : Int) == x5_2) = true := beq_iff_eq.mpr c36
                                  have c36b1 : ((t393.length : Int) != x5_2) = false := bne_eq_false_iff_eq.mpr c36
                                  clear c36
                                  have H' := Aside0.mk H
                                  clear H
                                  obtain ⟨Ao37, co37, eo37⟩ := Kd.R_slice HO_6.out
                                  subst eo37
                                  go_wp2
                                  repeat (go_quiet (fail); try go_wp2)
                                  go_roundg k4
                                  case measure => have := HK1.out; have := HK2.out; have := HJ21.out; have := HK4.out; omega
                                  case rel => exact ⟨(wrap64 (x5_2 + 1)), (by first | rfl | (simp; done) | (simp [*]; done)), H', ⟨by have := HK1.out; have := HK2.out; have := HJ21.out; have := HK4.out; omega⟩, ⟨by (with_reducible repeat (first | apply Kd.R_alloc | apply Kd.R_drewN | apply Kd.R_drew)); exact HO_3.out⟩, ⟨by repeat (first | (with_reducible first | exact HB.out | apply below_alloc | apply pw_below_drewN | apply below_drew1) | exact HB.out)⟩⟩
                                · rw [if_neg c36] at H
                                  exact absurd H (by simp)
                              · replace c35 := Bool.eq_false_iff.mpr c35
                                subst c35
                                have H1 : (if (t393.length : Int) = 0 then (caesuralaw05_PackBits.l1 k4 l0 t387 (wrap64 (x5_2 + 1))) else (none)) = some r := by rw [if_neg (show ¬ (false = true) by decide)] at H; exact H
                                clear H
                                have H := H1
                                clear H1
                                by_cases c38 : (t393.length : Int) = 0
                                · rw [if_pos c38] at H
                                  have c38b0 : ((t393.length : Int) == 0) = true := beq_iff_eq.mpr c38
                                  have c38b1 : ((t393.length : Int) != 0) = false := bne_eq_false_iff_eq.mpr c38
                                  clear c38
                                  have H' := Aside0.mk H
                                  clear H
                                  obtain ⟨Ao39, co39, eo39⟩ := Kd.R_slice HO_6.out
                                  subst eo39
                                  go_wp2
                                  repeat (go_quiet (fail); try go_wp2)
                                  go_roundg k4
                                  case measure => have := HK1.out; have := HK2.out; have := HJ21.out; have := HK4.out; omega
                                  case rel => exact ⟨(wrap64 (x5_2 + 1)), (by first | rfl | (simp; done) | (simp [*]; done)), H', ⟨by have := HK1.out; have := HK2.out; have := HJ21.out; have := HK4.out; omega⟩, ⟨by (with_reducible repeat (first | apply Kd.R_alloc | apply Kd.R_drewN | apply Kd.R_drew)); exact HO_3.out⟩, ⟨by repeat (first | (with_reducible first | exact HB.out | apply below_alloc | apply pw_below_drewN | apply below_drew1) | exact HB.out)⟩⟩
                                · rw [if_neg c38] at H
                                  exact absurd H (by simp)
                · rw [if_neg c20] at H
                  have c20b0 : decide (x5_2 ≤ (wrap64 ((l0.length : Int) + 9))) = false := decide_eq_false c20
                  clear c20
                  replace H := Option.bind_eq_some_iff.mp H
                  obtain ⟨t392, A400, H⟩ := H
                  replace H : (some t392) = some r := H
                  have A40 := Aside0.mk A400
                  clear A400
                  obtain rfl := Option.some.inj H
                  go_wp2_with (first | (go_at_call 24; (with_reducible refine (caesuralaw05_wakes.calls k2  t392 _ A40.out).mono ?_); rintro e w41 ⟨rfl, hb⟩; have n0_ := Aside0.mk (Kd.R_below (by (with_reducible repeat (first | apply Kd.R_alloc | apply Kd.R_drewN | apply Kd.R_drew)); exact HO_3.out) hb); have n1_ := Aside0.mk (below_step (by repeat (first | (with_reducible first | exact HB.out | apply below_alloc | apply pw_below_drewN | apply below_drew1) | exact HB.out)) hb); clear HO_3; clear HB; have HO_3 := n0_; have HB := n1_; clear n0_ n1_; (try clear hb); (try clear hb2); (try clear hk); (try clear hi)))
                  repeat (go_quiet (first | (go_at_call 24; (with_reducible refine (caesuralaw05_wakes.calls k2  t392 _ A40.out).mono ?_); rintro e w41 ⟨rfl, hb⟩; have n0_ := Aside0.mk (Kd.R_below (by (with_reducible repeat (first | apply Kd.R_alloc | apply Kd.R_drewN | apply Kd.R_drew)); exact HO_3.out) hb); have n1_ := Aside0.mk (below_step (by repeat (first | (with_reducible first | exact HB.out | apply below_alloc | apply pw_below_drewN | apply below_drew1) | exact HB.out)) hb); clear HO_3; clear HB; have HO_3 := n0_; have HB := n1_; clear n0_ n1_; (try clear hb); (try clear hb2); (try clear hk); (try clear hi))); try go_wp2_with (first | (go_at_call 24; (with_reducible refine (caesuralaw05_wakes.calls k2  t392 _ A40.out).mono ?_); rintro e w41 ⟨rfl, hb⟩; have n0_ := Aside0.mk (Kd.R_below (by (with_reducible repeat (first | apply Kd.R_alloc | apply Kd.R_drewN | apply Kd.R_drew)); exact HO_3.out) hb); have n1_ := Aside0.mk (below_step (by repeat (first | (with_reducible first | exact HB.out | apply below_alloc | apply pw_below_drewN | apply below_drew1) | exact HB.out)) hb); clear HO_3; clear HB; have HO_3 := n0_; have HB := n1_; clear n0_ n1_; (try clear hb); (try clear hb2); (try clear hk); (try clear hi))))
                  go_ret
                  exact ⟨by first | rfl | (simp [errW_none, errW_some] <;> rfl) | (simp [*, errW_none, errW_some] <;> rfl), by repeat (first | (with_reducible first | exact HB.out | apply below_alloc | apply pw_below_drewN | apply below_drew1) | exact HB.out)⟩
    · rw [if_neg c6] at H
      exact absurd H (by simp)

/-- THE ONE PURE STATEMENT of caesuralaw05_PackBits. -/
def caesuralaw05_PackBits.Pure : Prop := ∀ (x0 : List Bool), (x0.length ≤ maxLen ∧ ∀ x398 ∈ x0, True) → ∃ k, caesuralaw05_PackBits.f k x0 = some true

end Go.Proofs.Ytoilaibpmepecaa.X
