/- Functions of the program as Lean functions, and that the program comes to their answers (written by this session's own program, wip/x/xprint.py; Lean checks it). -/
import Derived.Test.YtoilaibpmepecaaXx0
import Derived.Test.YtoilaibpmepecaaXx5
namespace Go.Proofs.Ytoilaibpmepecaa.X
open Go.RowKit Go.Proofs.YtoilaibpmepecaaW.PrintWords Go.Proofs.YtoilaibpmepecaaW.PrintLast Go.Proofs.YtoilaibpmepecaaW.PrintMore
attribute [local go_sem] max2_int min2_int max_two min_two max_three min_three max_four min_four   -- for this text's walks alone
set_option linter.unusedVariables false
set_option linter.unusedSimpArgs false

/-! ### caesuralaw05_PackSums: function 10 -/
def caesuralaw05_PackSums.j0 : Nat → List Int → Int → Int → Bool → Option (Bool)
  | 0, _, _, _, _ => none
  | k + 1, x0, x1, x2, x16 => if x16 = true then ((caesuralaw05_wakes.f k).bind fun t366 => (some t366)) else ((some (([] : List Int) : List Int)).bind fun y367 => (if y367.length + x0.length < 140737488355328 then ((some (y367 ++ x0 : List Int)).bind fun y370 => (if (y370.length : Int) = 0 then (none) else (if 0 ≤ (Int.tmod (wrap64 (x1)) (y370.length : Int)) then (if (Int.tmod (wrap64 (x1)) (y370.length : Int)) < (y370.length : Int) then ((pack_Sum.f k x0).bind fun t375 => ((pack_Sum.f k (y370.set ((Int.tmod (wrap64 (x1)) (y370.length : Int)) : Int).toNat (Go.bits .xor .u8 (rd y370 (Int.tmod (wrap64 (x1)) (y370.length : Int))) x2))).bind fun t376 => (if ((t375 == t376) != (x2 == 0)) = true then (none) else (if 0 ≤ (wrap64 ((x0.length : Int) - 1)) then (if (wrap64 ((x0.length : Int) - 1)) ≤ (x0.length : Int) then ((pack_Sum.f k (x0.take ((wrap64 ((x0.length : Int) - 1)) : Int).toNat)).bind fun t381 => (if (wrap64 ((x0.length : Int) - 1)) < (x0.length : Int) then ((pack_Sum.f k x0).bind fun t383 => (if t383 = (((Go.bits .or .u32 (((Go.bits .xor .u32 t381 ((rd x0 (wrap64 ((x0.length : Int) - 1))) % 4294967296)) * 32) % 4294967296) ((Go.bits .xor .u32 t381 ((rd x0 (wrap64 ((x0.length : Int) - 1))) % 4294967296)) / 134217728)) + 2654435761) % 4294967296) then ((caesuralaw05_wakes.f k).bind fun t384 => (some t384)) else (none))) else (none))) else (none)) else (none))))) else (none)) else (none)))) else (none)))
def caesuralaw05_PackSums.f (k : Nat) (l0 : List Int) (a1 : Int) (a2 : Int) : Option (Bool) := if (l0.length : Int) = 0 then (caesuralaw05_PackSums.j0 k l0 a1 a2 true) else (caesuralaw05_PackSums.j0 k l0 a1 a2 (decide ((l0.length : Int) > 500)))
theorem caesuralaw05_PackSums.mono_l : ∀ k, (∀ y0 y1 y2 y3, LeO (caesuralaw05_PackSums.j0 k y0 y1 y2 y3) (caesuralaw05_PackSums.j0 (k + 1) y0 y1 y2 y3))
  | 0 => fun _ _ _ _ r h => by simp [caesuralaw05_PackSums.j0] at h
  | k + 1 => by
    have ih0 := caesuralaw05_PackSums.mono_l k
    · intro y0 y1 y2 y3
      unfold caesuralaw05_PackSums.j0
      repeat' first
      | (with_reducible exact ih0 _ _ _ _)
      | (with_reducible exact caesuralaw05_wakes.mono _)
      | (with_reducible exact pack_Sum.mono _ _)
      | (with_reducible exact LeO.refl _)
      | (with_reducible exact LeO.none _)
      | (with_reducible refine LeO.ite ?_ ?_)
      | (with_reducible refine LeO.bind ?_ (fun _ => ?_))
      | exact ih0 _ _ _ _
      | exact caesuralaw05_wakes.mono _
      | exact pack_Sum.mono _ _
      | exact LeO.none _
      | refine LeO.ite ?_ ?_
      | refine LeO.bind ?_ (fun _ => ?_)
theorem caesuralaw05_PackSums.mono : ∀ a0 a1 a2 k, LeO (caesuralaw05_PackSums.f k a0 a1 a2) (caesuralaw05_PackSums.f (k + 1) a0 a1 a2) := by
  intro a0 a1 a2 k
  have ih0 := caesuralaw05_PackSums.mono_l k
  unfold caesuralaw05_PackSums.f
  repeat' first
      | (with_reducible exact ih0 _ _ _ _)
      | (with_reducible exact caesuralaw05_wakes.mono _)
      | (with_reducible exact pack_Sum.mono _ _)
      | (with_reducible exact LeO.refl _)
      | (with_reducible exact LeO.none _)
      | (with_reducible refine LeO.ite ?_ ?_)
      | (with_reducible refine LeO.bind ?_ (fun _ => ?_))
      | exact ih0 _ _ _ _
      | exact caesuralaw05_wakes.mono _
      | exact pack_Sum.mono _ _
      | exact LeO.none _
      | refine LeO.ite ?_ ?_
      | refine LeO.bind ?_ (fun _ => ?_)
set_option maxHeartbeats 8000000 in
set_option maxRecDepth 100000 in
theorem caesuralaw05_PackSums.calls (k : Nat) (A0 : Option Addr) (c0 : Nat) (l0 : List Int) (a1 : Int) (a2 : Int) (r : Bool) (w : World) (hr0 : Kd.C (Kd.int .u8) w A0 l0.length l0) (hc0 : l0.length ≤ c0) (h : caesuralaw05_PackSums.f k l0 a1 a2 = some r) :
    Calls Try.prog 10 #[.slice A0 l0.length c0, .int .u16 a1, .int .u8 a2] w fun e w' => e = .returned (.bool r) ∧ Below w.heap.size w w' := by
  have HR0 := Aside0.mk hr0
  have HC0 := Aside0.mk hc0
  clear hr0 hc0
  have HB := Aside0.mk (Below.refl w.heap.size w)
  have H : (if (l0.length : Int) = 0 then (caesuralaw05_PackSums.j0 k l0 a1 a2 true) else (caesuralaw05_PackSums.j0 k l0 a1 a2 (decide ((l0.length : Int) > 500)))) = some r := h
  clear h
  have HC4 := Aside0.mk H
  clear H
  go_enter Try.func10, Try.ntmps10
  go_upto_region 1 with (fail)
  go_cut [16] (fun v16 wc => ∃ (kq : Nat) (x16_3 : Bool), v16 = .bool x16_3 ∧ Aside0 (caesuralaw05_PackSums.j0 kq l0 a1 a2 x16_3 = some r) ∧ Aside0 (kq ≤ k) ∧ Aside0 (Below w.heap.size w wc))
  case first =>
    have H := HC4.out
    clear HC4
    by_cases c5 : (l0.length : Int) = 0
    · rw [if_pos c5] at H
      have c5b0 : ((l0.length : Int) == 0) = true := beq_iff_eq.mpr c5
      have c5b1 : ((l0.length : Int) != 0) = false := bne_eq_false_iff_eq.mpr c5
      clear c5
      (first | rw [c5b0] | (simp only [i64_w, i32_w]; rw [c5b0]) | skip)
      have H' := Aside0.mk H
      clear H
      go_wp2
      go_meet
      case rel => exact ⟨_, (true), (by first | rfl | (simp; done) | (simp [*]; done)), H', ⟨by first | omega | exact Nat.le_refl _⟩, ⟨by repeat (first | (with_reducible first | exact HB.out | apply below_alloc | apply pw_below_drewN | apply below_drew1) | exact HB.out)⟩⟩
    · rw [if_neg c5] at H
      have c5b0 : ((l0.length : Int) == 0) = false := beq_eq_false_iff_ne.mpr c5
      have c5b1 : ((l0.length : Int) != 0) = true := bne_iff_ne.mpr c5
      have c5b2 : ¬ (l0 = []) := fun h_ => c5 (by rw [h_]; rfl)
      (first | rw [c5b0] | (simp only [i64_w, i32_w]; rw [c5b0]) | skip)
      have H' := Aside0.mk H
      clear H
      go_wp2
      go_meet
      case rel => exact ⟨_, (decide ((l0.length : Int) > 500)), (by first | rfl | (simp; done) | (simp [*]; done)), H', ⟨by first | omega | exact Nat.le_refl _⟩, ⟨by repeat (first | (with_reducible first | exact HB.out | apply below_alloc | apply pw_below_drewN | apply below_drew1) | exact HB.out)⟩⟩
  case rest =>
    clear HC4
    try clear c1
    try clear p2
    try clear c5
    try clear c5b0
    try clear c5b1
    try clear c5b2
    obtain ⟨kq, x16_3, rfl, HA, HJ3, HB⟩ := hcut
    cases kq with
    | zero => exact absurd HA.out (by simp [caesuralaw05_PackSums.j0])
    | succ kj3 =>
      have H := HA.out
      clear HA
      simp only [caesuralaw05_PackSums.j0] at H
      by_cases c6 : x16_3 = true
      · subst c6
        have H1 : ((caesuralaw05_wakes.f kj3).bind fun t366 => (some t366)) = some r := by rw [if_pos rfl] at H; exact H
        clear H
        have H := H1
        clear H1
        replace H := Option.bind_eq_some_iff.mp H
        obtain ⟨t366, A70, H⟩ := H
        replace H : (some t366) = some r := H
        have A7 := Aside0.mk A70
        clear A70
        obtain rfl := Option.some.inj H
        go_wp2_with (first | ((with_reducible refine gate_callee (f := 24) rfl ?_); refine goesL_ (some 17) rfl rfl Try.func24 (by kernel_rfl) rfl #[] rfl (by (try simp only [List.map_toArray, List.map_cons, List.map_nil]); first | done | rfl | (simp only [List.length_drop, List.length_take]; rfl)) ?_; (with_reducible refine (caesuralaw05_wakes.calls kj3  t366 _ A7.out).mono ?_); rintro e w8 ⟨rfl, hb⟩; refine ⟨_, rfl, ?_⟩; have n0_ := Aside0.mk (below_step (by repeat (first | (with_reducible first | exact HB.out | apply below_alloc | apply pw_below_drewN | apply below_drew1) | exact HB.out)) hb); clear HB; have HB := n0_; clear n0_; (try clear hb); (try clear hb2); (try clear hk); (try clear hi)))
        go_ret
        exact ⟨by first | rfl | (simp [errW_none, errW_some] <;> rfl) | (simp [*, errW_none, errW_some] <;> rfl), by repeat (first | (with_reducible first | exact HB.out | apply below_alloc | apply pw_below_drewN | apply below_drew1) | exact HB.out)⟩
      · replace c6 := Bool.eq_false_iff.mpr c6
        subst c6
        have H1 : ((some (([] : List Int) : List Int)).bind fun y367 => (if y367.length + l0.length < 140737488355328 then ((some (y367 ++ l0 : List Int)).bind fun y370 => (if (y370.length : Int) = 0 then (none) else (if 0 ≤ (Int.tmod (wrap64 (a1)) (y370.length : Int)) then (if (Int.tmod (wrap64 (a1)) (y370.length : Int)) < (y370.length : Int) then ((pack_Sum.f kj3 l0).bind fun t375 => ((pack_Sum.f kj3 (y370.set ((Int.tmod (wrap64 (a1)) (y370.length : Int)) : Int).toNat (Go.bits .xor .u8 (rd y370 (Int.tmod (wrap64 (a1)) (y370.length : Int))) a2))).bind fun t376 => (if ((t375 == t376) != (a2 == 0)) = true then (none) else (if 0 ≤ (wrap64 ((l0.length : Int) - 1)) then (if (wrap64 ((l0.length : Int) - 1)) ≤ (l0.length : Int) then ((pack_Sum.f kj3 (l0.take ((wrap64 ((l0.length : Int) - 1)) : Int).toNat)).bind fun t381 => (if (wrap64 ((l0.length : Int) - 1)) < (l0.length : Int) then ((pack_Sum.f kj3 l0).bind fun t383 => (if t383 = (((Go.bits .or .u32 (((Go.bits .xor .u32 t381 ((rd l0 (wrap64 ((l0.length : Int) - 1))) % 4294967296)) * 32) % 4294967296) ((Go.bits .xor .u32 t381 ((rd l0 (wrap64 ((l0.length : Int) - 1))) % 4294967296)) / 134217728)) + 2654435761) % 4294967296) then ((caesuralaw05_wakes.f kj3).bind fun t384 => (some t384)) else (none))) else (none))) else (none)) else (none))))) else (none)) else (none)))) else (none))) = some r := by rw [if_neg (show ¬ (false = true) by decide)] at H; exact H
        clear H
        have H := H1
        clear H1
        obtain ⟨y367, hy367⟩ : ∃ y_ : List Int, y_ = (([] : List Int)) := ⟨_, rfl⟩
        replace H : (if y367.length + l0.length < 140737488355328 then ((some (y367 ++ l0 : List Int)).bind fun y370 => (if (y370.length : Int) = 0 then (none) else (if 0 ≤ (Int.tmod (wrap64 (a1)) (y370.length : Int)) then (if (Int.tmod (wrap64 (a1)) (y370.length : Int)) < (y370.length : Int) then ((pack_Sum.f kj3 l0).bind fun t375 => ((pack_Sum.f kj3 (y370.set ((Int.tmod (wrap64 (a1)) (y370.length : Int)) : Int).toNat (Go.bits .xor .u8 (rd y370 (Int.tmod (wrap64 (a1)) (y370.length : Int))) a2))).bind fun t376 => (if ((t375 == t376) != (a2 == 0)) = true then (none) else (if 0 ≤ (wrap64 ((l0.length : Int) - 1)) then (if (wrap64 ((l0.length : Int) - 1)) ≤ (l0.length : Int) then ((pack_Sum.f kj3 (l0.take ((wrap64 ((l0.length : Int) - 1)) : Int).toNat)).bind fun t381 => (if (wrap64 ((l0.length : Int) - 1)) < (l0.length : Int) then ((pack_Sum.f kj3 l0).bind fun t383 => (if t383 = (((Go.bits .or .u32 (((Go.bits .xor .u32 t381 ((rd l0 (wrap64 ((l0.length : Int) - 1))) % 4294967296)) * 32) % 4294967296) ((Go.bits .xor .u32 t381 ((rd l0 (wrap64 ((l0.length : Int) - 1))) % 4294967296)) / 134217728)) + 2654435761) % 4294967296) then ((caesuralaw05_wakes.f kj3).bind fun t384 => (some t384)) else (none))) else (none))) else (none)) else (none))))) else (none)) else (none)))) else (none)) = some r := by first | (rw [hy367]; with_reducible exact H) | (have H2_ := (Option.bind_some _ _).symm.trans H; rw [hy367]; with_reducible exact H2_) | (have H2_ := (Option.bind_some _ _).symm.trans H; with_reducible exact H2_) | with_reducible exact H | (rw [hy367]; exact H) | exact H
        have Ny367 := Aside0.mk hy367
        clear hy367
        by_cases c9 : y367.length + l0.length < 140737488355328
        · rw [if_pos c9] at H
          have LMc9 := Aside0.mk c9
          clear c9
          obtain ⟨y370, hy370⟩ : ∃ y_ : List Int, y_ = (y367 ++ l0) := ⟨_, rfl⟩
          replace H : (if (y370.length : Int) = 0 then (none) else (if 0 ≤ (Int.tmod (wrap64 (a1)) (y370.length : Int)) then (if (Int.tmod (wrap64 (a1)) (y370.length : Int)) < (y370.length : Int) then ((pack_Sum.f kj3 l0).bind fun t375 => ((pack_Sum.f kj3 (y370.set ((Int.tmod (wrap64 (a1)) (y370.length : Int)) : Int).toNat (Go.bits .xor .u8 (rd y370 (Int.tmod (wrap64 (a1)) (y370.length : Int))) a2))).bind fun t376 => (if ((t375 == t376) != (a2 == 0)) = true then (none) else (if 0 ≤ (wrap64 ((l0.length : Int) - 1)) then (if (wrap64 ((l0.length : Int) - 1)) ≤ (l0.length : Int) then ((pack_Sum.f kj3 (l0.take ((wrap64 ((l0.length : Int) - 1)) : Int).toNat)).bind fun t381 => (if (wrap64 ((l0.length : Int) - 1)) < (l0.length : Int) then ((pack_Sum.f kj3 l0).bind fun t383 => (if t383 = (((Go.bits .or .u32 (((Go.bits .xor .u32 t381 ((rd l0 (wrap64 ((l0.length : Int) - 1))) % 4294967296)) * 32) % 4294967296) ((Go.bits .xor .u32 t381 ((rd l0 (wrap64 ((l0.length : Int) - 1))) % 4294967296)) / 134217728)) + 2654435761) % 4294967296) then ((caesuralaw05_wakes.f kj3).bind fun t384 => (some t384)) else (none))) else (none))) else (none)) else (none))))) else (none)) else (none))) = some r := by first | (rw [hy370]; with_reducible exact H) | (have H2_ := (Option.bind_some _ _).symm.trans H; rw [hy370]; with_reducible exact H2_) | (have H2_ := (Option.bind_some _ _).symm.trans H; with_reducible exact H2_) | with_reducible exact H | (rw [hy370]; exact H) | exact H
          have Ny370 := Aside0.mk hy370
          clear hy370
          by_cases c10 : (y370.length : Int) = 0
          · rw [if_pos c10] at H
            exact absurd H (by simp)
          · rw [if_neg c10] at H
            have c10b0 : ((y370.length : Int) == 0) = false := beq_eq_false_iff_ne.mpr c10
            have c10b1 : ((y370.length : Int) != 0) = true := bne_iff_ne.mpr c10
            have c10b2 : ¬ (y370 = []) := fun h_ => c10 (by rw [h_]; rfl)
            obtain ⟨ji11, hji11⟩ : ∃ j_ : Int, (Int.tmod (wrap64 (a1)) (y370.length : Int)) = j_ := ⟨_, rfl⟩
            replace H : (if 0 ≤ (ji11) then (if (ji11) < (y370.length : Int) then ((pack_Sum.f kj3 l0).bind fun t375 => ((pack_Sum.f kj3 (y370.set ((ji11) : Int).toNat (Go.bits .xor .u8 (rd y370 (ji11)) a2))).bind fun t376 => (if ((t375 == t376) != (a2 == 0)) = true then (none) else (if 0 ≤ (wrap64 ((l0.length : Int) - 1)) then (if (wrap64 ((l0.length : Int) - 1)) ≤ (l0.length : Int) then ((pack_Sum.f kj3 (l0.take ((wrap64 ((l0.length : Int) - 1)) : Int).toNat)).bind fun t381 => (if (wrap64 ((l0.length : Int) - 1)) < (l0.length : Int) then ((pack_Sum.f kj3 l0).bind fun t383 => (if t383 = (((Go.bits .or .u32 (((Go.bits .xor .u32 t381 ((rd l0 (wrap64 ((l0.length : Int) - 1))) % 4294967296)) * 32) % 4294967296) ((Go.bits .xor .u32 t381 ((rd l0 (wrap64 ((l0.length : Int) - 1))) % 4294967296)) / 134217728)) + 2654435761) % 4294967296) then ((caesuralaw05_wakes.f kj3).bind fun t384 => (some t384)) else (none))) else (none))) else (none)) else (none))))) else (none)) else (none)) = some r := by first | (rw [hji11] at H; exact H) | (simp only [hji11] at H ⊢; exact H)
            by_cases c12 : 0 ≤ (ji11)
            · rw [if_pos c12] at H
              have c12b0 : decide (0 ≤ (ji11)) = true := decide_eq_true c12
              clear c12
              by_cases c13 : (ji11) < (y370.length : Int)
              · rw [if_pos c13] at H
                have c13b0 : decide ((ji11) < (y370.length : Int)) = true := decide_eq_true c13
                clear c13
                obtain ⟨y374, hy374⟩ : ∃ y_ : List Int, y_ = (y370.set ((ji11) : Int).toNat (Go.bits .xor .u8 (rd y370 (ji11)) a2)) := ⟨_, rfl⟩
                replace H : ((pack_Sum.f kj3 l0).bind fun t375 => ((pack_Sum.f kj3 y374).bind fun t376 => (if ((t375 == t376) != (a2 == 0)) = true then (none) else (if 0 ≤ (wrap64 ((l0.length : Int) - 1)) then (if (wrap64 ((l0.length : Int) - 1)) ≤ (l0.length : Int) then ((pack_Sum.f kj3 (l0.take ((wrap64 ((l0.length : Int) - 1)) : Int).toNat)).bind fun t381 => (if (wrap64 ((l0.length : Int) - 1)) < (l0.length : Int) then ((pack_Sum.f kj3 l0).bind fun t383 => (if t383 = (((Go.bits .or .u32 (((Go.bits .xor .u32 t381 ((rd l0 (wrap64 ((l0.length : Int) - 1))) % 4294967296)) * 32) % 4294967296) ((Go.bits .xor .u32 t381 ((rd l0 (wrap64 ((l0.length : Int) - 1))) % 4294967296)) / 134217728)) + 2654435761) % 4294967296) then ((caesuralaw05_wakes.f kj3).bind fun t384 => (some t384)) else (none))) else (none))) else (none)) else (none))))) = some r := by first | (rw [hy374]; with_reducible exact H) | (have H2_ := (Option.bind_some _ _).symm.trans H; rw [hy374]; with_reducible exact H2_) | (have H2_ := (Option.bind_some _ _).symm.trans H; with_reducible exact H2_) | with_reducible exact H | (rw [hy374]; exact H) | exact H
                have Ny374 := Aside0.mk hy374
                clear hy374
                replace H := Option.bind_eq_some_iff.mp H
                obtain ⟨t375, A150, H⟩ := H
                replace H : ((pack_Sum.f kj3 y374).bind fun t376 => (if ((t375 == t376) != (a2 == 0)) = true then (none) else (if 0 ≤ (wrap64 ((l0.length : Int) - 1)) then (if (wrap64 ((l0.length : Int) - 1)) ≤ (l0.length : Int) then ((pack_Sum.f kj3 (l0.take ((wrap64 ((l0.length : Int) - 1)) : Int).toNat)).bind fun t381 => (if (wrap64 ((l0.length : Int) - 1)) < (l0.length : Int) then ((pack_Sum.f kj3 l0).bind fun t383 => (if t383 = (((Go.bits .or .u32 (((Go.bits .xor .u32 t381 ((rd l0 (wrap64 ((l0.length : Int) - 1))) % 4294967296)) * 32) % 4294967296) ((Go.bits .xor .u32 t381 ((rd l0 (wrap64 ((l0.length : Int) - 1))) % 4294967296)) / 134217728)) + 2654435761) % 4294967296) then ((caesuralaw05_wakes.f kj3).bind fun t384 => (some t384)) else (none))) else (none))) else (none)) else (none)))) = some r := H
                have A15 := Aside0.mk A150
                clear A150
                replace H := Option.bind_eq_some_iff.mp H
                obtain ⟨t376, A160, H⟩ := H
                replace H : (if ((t375 == t376) != (a2 == 0)) = true then (none) else (if 0 ≤ (wrap64 ((l0.length : Int) - 1)) then (if (wrap64 ((l0.length : Int) - 1)) ≤ (l0.length : Int) then ((pack_Sum.f kj3 (l0.take ((wrap64 ((l0.length : Int) - 1)) : Int).toNat)).bind fun t381 => (if (wrap64 ((l0.length : Int) - 1)) < (l0.length : Int) then ((pack_Sum.f kj3 l0).bind fun t383 => (if t383 = (((Go.bits .or .u32 (((Go.bits .xor .u32 t381 ((rd l0 (wrap64 ((l0.length : Int) - 1))) % 4294967296)) * 32) % 4294967296) ((Go.bits .xor .u32 t381 ((rd l0 (wrap64 ((l0.length : Int) - 1))) % 4294967296)) / 134217728)) + 2654435761) % 4294967296) then ((caesuralaw05_wakes.f kj3).bind fun t384 => (some t384)) else (none))) else (none))) else (none)) else (none))) = some r := H
                have A16 := Aside0.mk A160
                clear A160
                by_cases c17 : ((t375 == t376) != (a2 == 0)) = true
                · rw [if_pos c17] at H
                  exact absurd H (by simp)
                · rw [if_neg c17] at H
                  have c17b0 : ((t375 == t376) != (a2 == 0)) = false := by simpa using c17
                  (try (have c17b1 : decide ((t375 == t376) = (a2 == 0)) = true := by simpa using c17))
                  (try (have c17b2 : ((t375 == t376) == (a2 == 0)) = true := by simpa using c17))
                  clear c17
                  obtain ⟨ji18, hji18⟩ : ∃ j_ : Int, (wrap64 ((l0.length : Int) - 1)) = j_ := ⟨_, rfl⟩
                  replace H : (if 0 ≤ (ji18) then (if (ji18) ≤ (l0.length : Int) then ((pack_Sum.f kj3 (l0.take ((ji18) : Int).toNat)).bind fun t381 => (if (ji18) < (l0.length : Int) then ((pack_Sum.f kj3 l0).bind fun t383 => (if t383 = (((Go.bits .or .u32 (((Go.bits .xor .u32 t381 ((rd l0 (ji18)) % 4294967296)) * 32) % 4294967296) ((Go.bits .xor .u32 t381 ((rd l0 (ji18)) % 4294967296)) / 134217728)) + 2654435761) % 4294967296) then ((caesuralaw05_wakes.f kj3).bind fun t384 => (some t384)) else (none))) else (none))) else (none)) else (none)) = some r := by first | (rw [hji18] at H; exact H) | (simp only [hji18] at H ⊢; exact H)
                  (try rw [hji18] at A15)
                  (try rw [hji18] at A16)
                  have hji18w : (IntKind.i64.wrap ((l0.length : Int) - 1)) = ji18 := (i64_w _).trans hji18
                  by_cases c19 : 0 ≤ (ji18)
                  · rw [if_pos c19] at H
                    have c19b0 := eq_true c19
                    have c19b1 : decide (0 ≤ (ji18)) = true := decide_eq_true c19
                    clear c19
                    by_cases c20 : (ji18) ≤ (l0.length : Int)
                    · rw [if_pos c20] at H
                      have c20b0 := eq_true c20
                      have c20b1 : decide ((ji18) ≤ (l0.length : Int)) = true := decide_eq_true c20
                      clear c20
                      obtain ⟨y377, hy377⟩ : ∃ y_ : List Int, y_ = (l0.take ((ji18) : Int).toNat) := ⟨_, rfl⟩
                      replace H : ((pack_Sum.f kj3 y377).bind fun t381 => (if (ji18) < (l0.length : Int) then ((pack_Sum.f kj3 l0).bind fun t383 => (if t383 = (((Go.bits .or .u32 (((Go.bits .xor .u32 t381 ((rd l0 (ji18)) % 4294967296)) * 32) % 4294967296) ((Go.bits .xor .u32 t381 ((rd l0 (ji18)) % 4294967296)) / 134217728)) + 2654435761) % 4294967296) then ((caesuralaw05_wakes.f kj3).bind fun t384 => (some t384)) else (none))) else (none))) = some r := by first | (rw [hy377]; with_reducible exact H) | (have H2_ := (Option.bind_some _ _).symm.trans H; rw [hy377]; with_reducible exact H2_) | (have H2_ := (Option.bind_some _ _).symm.trans H; with_reducible exact H2_) | with_reducible exact H | (rw [hy377]; exact H) | exact H
                      have Ny377 := Aside0.mk hy377
                      clear hy377
                      replace H := Option.bind_eq_some_iff.mp H
                      obtain ⟨t381, A210, H⟩ := H
                      replace H : (if (ji18) < (l0.length : Int) then ((pack_Sum.f kj3 l0).bind fun t383 => (if t383 = (((Go.bits .or .u32 (((Go.bits .xor .u32 t381 ((rd l0 (ji18)) % 4294967296)) * 32) % 4294967296) ((Go.bits .xor .u32 t381 ((rd l0 (ji18)) % 4294967296)) / 134217728)) + 2654435761) % 4294967296) then ((caesuralaw05_wakes.f kj3).bind fun t384 => (some t384)) else (none))) else (none)) = some r := H
                      have A21 := Aside0.mk A210
                      clear A210
                      by_cases c22 : (ji18) < (l0.length : Int)
                      · rw [if_pos c22] at H
                        have c22b0 : decide ((ji18) < (l0.length : Int)) = true := decide_eq_true c22
                        clear c22
                        replace H := Option.bind_eq_some_iff.mp H
                        obtain ⟨t383, A230, H⟩ := H
                        replace H : (if t383 = (((Go.bits .or .u32 (((Go.bits .xor .u32 t381 ((rd l0 (ji18)) % 4294967296)) * 32) % 4294967296) ((Go.bits .xor .u32 t381 ((rd l0 (ji18)) % 4294967296)) / 134217728)) + 2654435761) % 4294967296) then ((caesuralaw05_wakes.f kj3).bind fun t384 => (some t384)) else (none)) = some r := H
                        have A23 := Aside0.mk A230
                        clear A230
                        by_cases c24 : t383 = (((Go.bits .or .u32 (((Go.bits .xor .u32 t381 ((rd l0 (ji18)) % 4294967296)) * 32) % 4294967296) ((Go.bits .xor .u32 t381 ((rd l0 (ji18)) % 4294967296)) / 134217728)) + 2654435761) % 4294967296)
                        · rw [if_pos c24] at H
                          have c24b0 : (t383 == (((Go.bits .or .u32 (((Go.bits .xor .u32 t381 ((rd l0 (ji18)) % 4294967296)) * 32) % 4294967296) ((Go.bits .xor .u32 t381 ((rd l0 (ji18)) % 4294967296)) / 134217728)) + 2654435761) % 4294967296)) = true := beq_iff_eq.mpr c24
                          have c24b1 : (t383 != (((Go.bits .or .u32 (((Go.bits .xor .u32 t381 ((rd l0 (ji18)) % 4294967296)) * 32) % 4294967296) ((Go.bits .xor .u32 t381 ((rd l0 (ji18)) % 4294967296)) / 134217728)) + 2654435761) % 4294967296)) = false := bne_eq_false_iff_eq.mpr c24
                          clear c24
                          replace H := Option.bind_eq_some_iff.mp H
                          obtain ⟨t384, A250, H⟩ := H
                          replace H : (some t384) = some r := H
                          have A25 := Aside0.mk A250
                          clear A250
                          obtain rfl := Option.some.inj H
                          go_wp2_with (first | ((with_reducible refine gate_dst (N := 18) rfl ?_); (try (refine gate_guard (by rfl) ?_; dsimp only)); refine Kd.R_lit (Kd.int .u8) _ 5 ?hg (N := 18) ?hd (xs := ([] : List Int)) (inner := []) (ok := fun _ => True) (okp := fun _ => True) ?hr ?hp (fun _ hk => hk) trivial (Below.refl _ _) (Nat.le_refl _) (by simp) ?_; (case hd => rfl); (case hg => rfl); (case hr => first | (go_simp; done) | (go_simp; rfl)); (case hp => exact (Reps.none _ _)); intro v368 w26 ho27 hb hg_ hnew_; clear hg_ hnew_; (first | rw [← Ny367.out] at ho27 | (simp only [Int.reduceToNat] at ho27; rw [← Ny367.out] at ho27)); have n0_ := Aside0.mk (Kd.R_lower ho27 (below_size (by repeat (first | (with_reducible first | exact HB.out | apply below_alloc | apply pw_below_drewN | apply below_drew1) | exact HB.out)))); have n1_ := Aside0.mk (below_step (by repeat (first | (with_reducible first | exact HB.out | apply below_alloc | apply pw_below_drewN | apply below_drew1) | exact HB.out)) hb); clear HB; have HO369 := n0_; have HB := n1_; clear n0_ n1_; clear hb ho27) | ((with_reducible refine gate_builtin (b := .append) (xs := #[.tmp 18, .tmp 19]) rfl ?_); (try (refine gate_guard (by rfl) ?_; dsimp only)); at_builtin; refine Kd.R_append_rows (Kd.int .u8) (w0 := w) w.heap.size rfl (.tmp 18) (.tmp 19) 34 5 (.int .u8 0) 1 rfl Try.underlying34 info5 rfl (by decide) (by omega) v368 y367 l0 _ _ _ (fun _ => True) (fun _ => False) rfl rfl ?aO ?aR (fun _ _ h => h) (fun _ h => h.elim) ?aF ?aB ?aS ?aL ?_; (case aR => repeat (first | exact (Kd.C_below HR0.out HB.out) | (with_reducible refine Kd.C_alloc ?_ _) | (with_reducible refine Kd.C_drewN ?_ _) | (with_reducible refine Kd.C_drew ?_))); (case aB => exact (by repeat (first | (with_reducible first | exact HB.out | apply below_alloc | apply pw_below_drewN | apply below_drew1) | exact HB.out))); (case aF => exact (fun _ _ => trivial)); (case aO => exact (by (with_reducible repeat (first | apply Kd.R_alloc | apply Kd.R_drewN | apply Kd.R_drew)); exact HO369.out)); (case aS => exact (below_size (by repeat (first | (with_reducible first | exact HB.out | apply below_alloc | apply pw_below_drewN | apply below_drew1) | exact HB.out)))); (case aL => have := LMc9.out; omega); intro v371 w28 ho hb hg hat; rw [← Ny370.out] at ho; have n0_ := Aside0.mk (hb); have n1_ := Aside0.mk (ho); clear HB; clear HO369; have HB := n0_; have HO372 := n1_; clear n0_ n1_; clear ho hb hg hat; obtain ⟨Ao29, co29, eo29⟩ := Kd.R_slice HO372.out; subst eo29; have p373 : 0 ≤ ((ji11) : Int) := of_decide_eq_true (by first | (with_reducible assumption) | assumption); have q373 : (ji11) < (y370.length : Int) := of_decide_eq_true (by first | (with_reducible assumption) | assumption); obtain ⟨ad373, e373, hx373_0⟩ := Kd.at_int (Kd.R_reads' HO372.out).2.2 (ji11) p373 q373; cases e373; replace p373 := eq_true p373; replace q373 := eq_true q373; have p14 : 0 ≤ ((ji11) : Int) := of_decide_eq_true (by first | (with_reducible assumption) | assumption); have q14 : ((ji11) : Int) < ((y370.length : Int) : Int) := of_decide_eq_true (by first | (with_reducible assumption) | assumption); obtain ⟨go14, co14, eo14, gb14, gl14, cl14, HG14⟩ := Kd.R_form HO372.out (by omega); (first | cases eo14 | (injection eo14 with ea_ en_ ec_; (first | subst ea_ | (injection ea_ with ea_; subst ea_)); subst ec_; clear en_)); have GB14 := Aside0.mk gb14; have GG14 := Aside0.mk HG14; clear gb14 gl14 HG14; (first | simp only [add_plain] at hx373_0 | skip); obtain ⟨hx14_0, hf14_0⟩ := Kd.R_celln 0 HO372.out ((ji11) : Int) p14 q14; replace p14 := eq_true p14; replace q14 := eq_true q14; obtain ⟨hy30_, hz30_⟩ := Kd.R_celln 0 HO372.out ((ji11) : Int) (of_decide_eq_true (by first | (with_reducible assumption) | assumption)) (of_decide_eq_true (by first | (with_reducible assumption) | assumption)); have HP30 := Kd.R_putg HO372.out ((ji11) : Int) (Go.bits .xor .u8 (rd y370 (ji11)) a2)) | ((with_reducible refine gate_store (t := 5) (p := 31) rfl ?_); refine store_event (t := 5) (p := 31) (v := ?vo_w31) (w1 := (w28.setCell ⟨go14, ((ji11) : Int).toNat, none⟩ (.int .u8 (Go.bits .xor .u8 (rd y370 (ji11)) a2)))) ?hg ?ho ?hn ?hr ?_; (case ho => rfl); (case hg => rfl); (case hn => rfl); (case hr => first | (go_simp; done) | (go_simp; rfl)); intro w31 hw; have hg : w28.grownBy w31 (some go14) := (by rw [hw]; exact HP30.2); have hp_ : Kd.R (Kd.int .u8) 5 w31 w.heap.size (fun _ => True) (.slice (some ⟨go14, 0, none⟩) y370.length co29) y374 := (by rw [hw, Ny374.out]; exact HP30.1); clear HP30; have n0_ := Aside0.mk (hp_); have n1_ := Aside0.mk ((by rw [hw]; exact below_set (HB.out) GB14.out : Below w.heap.size w w31)); clear HO372; clear HB; have HO372 := n0_; have HB := n1_; clear n0_ n1_; clear hg hw hp_) | ((with_reducible refine gate_callee (f := 32) rfl ?_); refine goesL_ (some 33) rfl rfl Try.func32 (by kernel_rfl) rfl #[.slice A0 l0.length c0] rfl (by (try simp only [List.map_toArray, List.map_cons, List.map_nil]); first | done | rfl | (simp only [List.length_drop, List.length_take]; rfl)) ?_; (with_reducible refine (pack_Sum.calls kj3 _ _ l0 t375 _ ?side1 ?side2 A15.out).mono ?_); (case side1 => repeat (first | exact (Kd.C_below HR0.out HB.out) | (with_reducible refine Kd.C_alloc ?_ _) | (with_reducible refine Kd.C_drewN ?_ _) | (with_reducible refine Kd.C_drew ?_))); (case side2 => exact HC0.out); rintro e w' ⟨rfl, ⟨nd, rfl⟩⟩; refine ⟨_, rfl, ?_⟩) | ((with_reducible refine gate_callee (f := 32) rfl ?_); refine goesL_ (some 35) rfl rfl Try.func32 (by kernel_rfl) rfl #[.slice (some ⟨go14, 0, none⟩) y374.length co29] rfl (by (try simp only [List.map_toArray, List.map_cons, List.map_nil]); first | done | (rw [show y374.length = y370.length from (Kd.R_reads' HO372.out).1.symm] <;> rfl) | rfl | (simp only [List.length_drop, List.length_take]; rfl)) ?_; (with_reducible refine (pack_Sum.calls kj3 _ _ y374 t376 _ ?side1 ?side2 A16.out).mono ?_); (case side1 => repeat (first | exact (Kd.R_reads' HO372.out).2.2 | (with_reducible refine Kd.C_alloc ?_ _) | (with_reducible refine Kd.C_drewN ?_ _) | (with_reducible refine Kd.C_drew ?_))); (case side2 => rw [show y374.length = y370.length from (Kd.R_reads' HO372.out).1.symm]; exact (Kd.R_reads' HO372.out).2.1); rintro e w' ⟨rfl, ⟨nd, rfl⟩⟩; refine ⟨_, rfl, ?_⟩; have q32 : ((ji18) : Int) ≤ ((l0.length : Int) : Int) := of_decide_eq_true (by first | (with_reducible assumption) | assumption); obtain ⟨i032, hi032, _, hsz32, _⟩ := info_parts info5; have hroom32 : l0.length ≤ c0 := HC0.out; have hC32 : Kd.C (Kd.int .u8) _ A0 l0.length l0 := HR0.out; have hcut32 := cut_to (P := Try.prog) 34 5 .i64 Try.underlying34 hi032 A0 l0.length c0 (ji18) (of_decide_eq_true (by first | (with_reducible assumption) | assumption)) q32 hroom32; have hr32 := Kd.C_take (m := ((ji18) : Int).toNat) hC32 (by omega); have hy32 : y377.length = ((ji18) : Int).toNat := (by rw [Ny377.out, List.length_take]; omega); rw [← Ny377.out] at hr32; rw [← hy32] at hcut32; have HR380 := Aside0.mk hr32; have HC380 := Aside0.mk (show y377.length ≤ c0 from by omega); clear hr32 hC32 hroom32 hi032 hsz32; have KY32 := Aside0.mk hy32; clear hy32; replace q32 := eq_true q32) | ((with_reducible refine gate_callee (f := 32) rfl ?_); refine goesL_ (some 45) rfl rfl Try.func32 (by kernel_rfl) rfl #[.slice A0 y377.length c0] rfl (by (try simp only [List.map_toArray, List.map_cons, List.map_nil]); first | done | rfl | (simp only [List.length_drop, List.length_take]; rfl)) ?_; (with_reducible refine (pack_Sum.calls kj3 _ _ y377 t381 _ ?side1 ?side2 A21.out).mono ?_); (case side1 => repeat (first | exact (Kd.C_below HR380.out (by repeat (first | (with_reducible first | exact HB.out | apply below_alloc | apply pw_below_drewN | apply below_drew1) | exact HB.out))) | (with_reducible refine Kd.C_alloc ?_ _) | (with_reducible refine Kd.C_drewN ?_ _) | (with_reducible refine Kd.C_drew ?_))); (case side2 => exact HC380.out); rintro e w' ⟨rfl, ⟨nd, rfl⟩⟩; refine ⟨_, rfl, ?_⟩; have p382 : 0 ≤ ((ji18) : Int) := of_decide_eq_true (by first | (with_reducible assumption) | assumption); have q382 : (ji18) < (l0.length : Int) := of_decide_eq_true (by first | (with_reducible assumption) | assumption); obtain ⟨ad382, e382, hx382_0⟩ := Kd.at_int HR0.out (ji18) p382 q382; cases e382; replace hx382_0 := (HB.out.cell (World.block_lt_of_cell? w _ hx382_0)).trans hx382_0; replace p382 := eq_true p382; replace q382 := eq_true q382) | ((with_reducible refine gate_callee (f := 32) rfl ?_); refine goesL_ (some 56) rfl rfl Try.func32 (by kernel_rfl) rfl #[.slice (some ad382) l0.length c0] rfl (by (try simp only [List.map_toArray, List.map_cons, List.map_nil]); first | done | rfl | (simp only [List.length_drop, List.length_take]; rfl)) ?_; (with_reducible refine (pack_Sum.calls kj3 _ _ l0 t383 _ ?side1 ?side2 A23.out).mono ?_); (case side1 => repeat (first | exact (Kd.C_below HR0.out (by repeat (first | (with_reducible first | exact HB.out | apply below_alloc | apply pw_below_drewN | apply below_drew1) | exact HB.out))) | (with_reducible refine Kd.C_alloc ?_ _) | (with_reducible refine Kd.C_drewN ?_ _) | (with_reducible refine Kd.C_drew ?_))); (case side2 => exact HC0.out); rintro e w' ⟨rfl, ⟨nd, rfl⟩⟩; refine ⟨_, rfl, ?_⟩) | (go_at_call 24; (with_reducible refine (caesuralaw05_wakes.calls kj3  t384 _ A25.out).mono ?_); rintro e w33 ⟨rfl, hb⟩; have n0_ := Aside0.mk (Kd.R_below (by (with_reducible repeat (first | apply Kd.R_alloc | apply Kd.R_drewN | apply Kd.R_drew)); exact HO372.out) hb); have n1_ := Aside0.mk (below_step (by repeat (first | (with_reducible first | exact HB.out | apply below_alloc | apply pw_below_drewN | apply below_drew1) | exact HB.out)) hb); clear HO372; clear HB; have HO372 := n0_; have HB := n1_; clear n0_ n1_; (try clear hb); (try clear hb2); (try clear hk); (try clear hi)))
                          go_ret
                          exact ⟨by first | rfl | (simp [errW_none, errW_some] <;> rfl) | (simp only [← hji11, ← hji18]; first | rfl | (simp [errW_none, errW_some] <;> rfl)) | (simp [*, errW_none, errW_some] <;> rfl), by repeat (first | (with_reducible first | exact HB.out | apply below_alloc | apply pw_below_drewN | apply below_drew1) | exact HB.out)⟩
                        · rw [if_neg c24] at H
                          exact absurd H (by simp)
                      · rw [if_neg c22] at H
                        exact absurd H (by simp)
                    · rw [if_neg c20] at H
                      exact absurd H (by simp)
                  · rw [if_neg c19] at H
                    exact absurd H (by simp)
              · rw [if_neg c13] at H
                exact absurd H (by simp)
            · rw [if_neg c12] at H
              exact absurd H (by simp)
        · rw [if_neg c9] at H
          exact absurd H (by simp)

/-- THE ONE PURE STATEMENT of caesuralaw05_PackSums. -/
def caesuralaw05_PackSums.Pure : Prop := ∀ (x0 : List Int) (x1 : Int) (x2 : Int), (x0.length ≤ maxLen ∧ ∀ x385 ∈ x0, (Lit.int .u8 x385).wf = true) → x0.length * 1 ≤ 140737488351232 → (Lit.int .u16 x1).wf = true → (Lit.int .u8 x2).wf = true → ∃ k, caesuralaw05_PackSums.f k x0 x1 x2 = some true

end Go.Proofs.Ytoilaibpmepecaa.X
