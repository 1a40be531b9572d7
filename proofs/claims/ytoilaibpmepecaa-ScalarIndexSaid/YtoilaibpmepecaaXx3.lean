/- Functions of the program as Lean functions, and that the program comes to their answers (written by this session's own program, wip/x/xprint.py; Lean checks it). -/
import Derived.Test.YtoilaibpmepecaaXx0
import Derived.Test.YtoilaibpmepecaaXx1
namespace Go.Proofs.Ytoilaibpmepecaa.X
open Go.RowKit Go.Proofs.YtoilaibpmepecaaW.PrintWords Go.Proofs.YtoilaibpmepecaaW.PrintLast Go.Proofs.YtoilaibpmepecaaW.PrintMore
attribute [local go_sem] max2_int min2_int max_two min_two max_three min_three max_four min_four   -- for this text's walks alone
set_option linter.unusedVariables false
set_option linter.unusedSimpArgs false

/-! ### caesuralaw01_ScalarOrder: function 6 -/
def caesuralaw01_ScalarOrder.j0 : Nat → Int → Int → Bool → Bool → Bool → Option (Bool)
  | 0, _, _, _, _, _ => none
  | k + 1, x5, x6, x8, x14, x72 => if x72 = true then (none) else ((scalar_Prev.f 0).bind fun bt177 => ((scalar_Next.f 1114111).bind fun bt179 => (if bt177.2 = true then (none) else (if bt179.2 = true then (none) else (if (x8 == (decide (x5 < 1114111))) = true then (if (x14 == (decide (x6 > 0))) = true then ((caesuralaw01_wakes.f).bind fun t181 => (some t181)) else (none)) else (none))))))
def caesuralaw01_ScalarOrder.f (k : Nat) (a0 : Int) (a1 : Int) : Option (Bool) := (scalar_Next.f (mn a0 a1)).bind fun bt169 => ((scalar_Next.f (mx a0 a1)).bind fun bt171 => ((scalar_Prev.f (mn a0 a1)).bind fun bt173 => ((scalar_Prev.f (mx a0 a1)).bind fun bt175 => (if bt171.2 = true then (if bt169.2 = true then (if bt173.2 = true then (if bt175.2 = true then (if bt169.1 > bt171.1 then (caesuralaw01_ScalarOrder.j0 k (mn a0 a1) (mx a0 a1) bt169.2 bt175.2 true) else (caesuralaw01_ScalarOrder.j0 k (mn a0 a1) (mx a0 a1) bt169.2 bt175.2 (decide (bt173.1 > bt175.1)))) else (caesuralaw01_ScalarOrder.j0 k (mn a0 a1) (mx a0 a1) bt169.2 bt175.2 true)) else (if bt169.1 > bt171.1 then (caesuralaw01_ScalarOrder.j0 k (mn a0 a1) (mx a0 a1) bt169.2 bt175.2 true) else (caesuralaw01_ScalarOrder.j0 k (mn a0 a1) (mx a0 a1) bt169.2 bt175.2 false))) else (caesuralaw01_ScalarOrder.j0 k (mn a0 a1) (mx a0 a1) bt169.2 bt175.2 true)) else (if bt173.2 = true then (if bt175.2 = true then (caesuralaw01_ScalarOrder.j0 k (mn a0 a1) (mx a0 a1) bt169.2 bt175.2 (decide (bt173.1 > bt175.1))) else (caesuralaw01_ScalarOrder.j0 k (mn a0 a1) (mx a0 a1) bt169.2 bt175.2 true)) else (caesuralaw01_ScalarOrder.j0 k (mn a0 a1) (mx a0 a1) bt169.2 bt175.2 false))))))
theorem caesuralaw01_ScalarOrder.mono_l : ∀ k, (∀ y0 y1 y2 y3 y4, LeO (caesuralaw01_ScalarOrder.j0 k y0 y1 y2 y3 y4) (caesuralaw01_ScalarOrder.j0 (k + 1) y0 y1 y2 y3 y4))
  | 0 => fun _ _ _ _ _ r h => by simp [caesuralaw01_ScalarOrder.j0] at h
  | k + 1 => by
    have ih0 := caesuralaw01_ScalarOrder.mono_l k
    · intro y0 y1 y2 y3 y4
      unfold caesuralaw01_ScalarOrder.j0
      repeat' first
      | (with_reducible exact ih0 _ _ _ _ _)
      | (with_reducible exact LeO.refl _)
      | (with_reducible exact LeO.none _)
      | (with_reducible refine LeO.ite ?_ ?_)
      | (with_reducible refine LeO.bind ?_ (fun _ => ?_))
      | exact ih0 _ _ _ _ _
      | exact LeO.none _
      | refine LeO.ite ?_ ?_
      | refine LeO.bind ?_ (fun _ => ?_)
theorem caesuralaw01_ScalarOrder.mono : ∀ a0 a1 k, LeO (caesuralaw01_ScalarOrder.f k a0 a1) (caesuralaw01_ScalarOrder.f (k + 1) a0 a1) := by
  intro a0 a1 k
  have ih0 := caesuralaw01_ScalarOrder.mono_l k
  unfold caesuralaw01_ScalarOrder.f
  repeat' first
      | (with_reducible exact ih0 _ _ _ _ _)
      | (with_reducible exact LeO.refl _)
      | (with_reducible exact LeO.none _)
      | (with_reducible refine LeO.ite ?_ ?_)
      | (with_reducible refine LeO.bind ?_ (fun _ => ?_))
      | exact ih0 _ _ _ _ _
      | exact LeO.none _
      | refine LeO.ite ?_ ?_
      | refine LeO.bind ?_ (fun _ => ?_)
set_option maxHeartbeats 8000000 in
set_option maxRecDepth 100000 in
theorem caesuralaw01_ScalarOrder.calls (k : Nat) (a0 : Int) (a1 : Int) (r : Bool) (w : World) (h : caesuralaw01_ScalarOrder.f k a0 a1 = some r) :
    Calls Try.prog 6 #[.int .i64 a0, .int .i64 a1] w fun e w' => e = .returned (.bool r) ∧ Below w.heap.size w w' := by
  have HB := Aside0.mk (Below.refl w.heap.size w)
  have H : ((scalar_Next.f (mn a0 a1)).bind fun bt169 => ((scalar_Next.f (mx a0 a1)).bind fun bt171 => ((scalar_Prev.f (mn a0 a1)).bind fun bt173 => ((scalar_Prev.f (mx a0 a1)).bind fun bt175 => (if bt171.2 = true then (if bt169.2 = true then (if bt173.2 = true then (if bt175.2 = true then (if bt169.1 > bt171.1 then (caesuralaw01_ScalarOrder.j0 k (mn a0 a1) (mx a0 a1) bt169.2 bt175.2 true) else (caesuralaw01_ScalarOrder.j0 k (mn a0 a1) (mx a0 a1) bt169.2 bt175.2 (decide (bt173.1 > bt175.1)))) else (caesuralaw01_ScalarOrder.j0 k (mn a0 a1) (mx a0 a1) bt169.2 bt175.2 true)) else (if bt169.1 > bt171.1 then (caesuralaw01_ScalarOrder.j0 k (mn a0 a1) (mx a0 a1) bt169.2 bt175.2 true) else (caesuralaw01_ScalarOrder.j0 k (mn a0 a1) (mx a0 a1) bt169.2 bt175.2 false))) else (caesuralaw01_ScalarOrder.j0 k (mn a0 a1) (mx a0 a1) bt169.2 bt175.2 true)) else (if bt173.2 = true then (if bt175.2 = true then (caesuralaw01_ScalarOrder.j0 k (mn a0 a1) (mx a0 a1) bt169.2 bt175.2 (decide (bt173.1 > bt175.1))) else (caesuralaw01_ScalarOrder.j0 k (mn a0 a1) (mx a0 a1) bt169.2 bt175.2 true)) else (caesuralaw01_ScalarOrder.j0 k (mn a0 a1) (mx a0 a1) bt169.2 bt175.2 false))))))) = some r := h
  clear h
  obtain ⟨ji3, hji3⟩ : ∃ j_ : Int, (mn a0 a1) = j_ := ⟨_, rfl⟩
  replace H : ((scalar_Next.f (ji3)).bind fun bt169 => ((scalar_Next.f (mx a0 a1)).bind fun bt171 => ((scalar_Prev.f (ji3)).bind fun bt173 => ((scalar_Prev.f (mx a0 a1)).bind fun bt175 => (if bt171.2 = true then (if bt169.2 = true then (if bt173.2 = true then (if bt175.2 = true then (if bt169.1 > bt171.1 then (caesuralaw01_ScalarOrder.j0 k ji3 (mx a0 a1) bt169.2 bt175.2 true) else (caesuralaw01_ScalarOrder.j0 k ji3 (mx a0 a1) bt169.2 bt175.2 (decide (bt173.1 > bt175.1)))) else (caesuralaw01_ScalarOrder.j0 k ji3 (mx a0 a1) bt169.2 bt175.2 true)) else (if bt169.1 > bt171.1 then (caesuralaw01_ScalarOrder.j0 k ji3 (mx a0 a1) bt169.2 bt175.2 true) else (caesuralaw01_ScalarOrder.j0 k ji3 (mx a0 a1) bt169.2 bt175.2 false))) else (caesuralaw01_ScalarOrder.j0 k ji3 (mx a0 a1) bt169.2 bt175.2 true)) else (if bt173.2 = true then (if bt175.2 = true then (caesuralaw01_ScalarOrder.j0 k ji3 (mx a0 a1) bt169.2 bt175.2 (decide (bt173.1 > bt175.1))) else (caesuralaw01_ScalarOrder.j0 k ji3 (mx a0 a1) bt169.2 bt175.2 true)) else (caesuralaw01_ScalarOrder.j0 k ji3 (mx a0 a1) bt169.2 bt175.2 false))))))) = some r := by first | (rw [hji3] at H; exact H) | (simp only [hji3] at H ⊢; exact H)
  have hji3_ : (if a1 < a0 then a1 else a0) = ji3 := hji3
  obtain ⟨ji4, hji4⟩ : ∃ j_ : Int, (mx a0 a1) = j_ := ⟨_, rfl⟩
  replace H : ((scalar_Next.f (ji3)).bind fun bt169 => ((scalar_Next.f (ji4)).bind fun bt171 => ((scalar_Prev.f (ji3)).bind fun bt173 => ((scalar_Prev.f (ji4)).bind fun bt175 => (if bt171.2 = true then (if bt169.2 = true then (if bt173.2 = true then (if bt175.2 = true then (if bt169.1 > bt171.1 then (caesuralaw01_ScalarOrder.j0 k ji3 ji4 bt169.2 bt175.2 true) else (caesuralaw01_ScalarOrder.j0 k ji3 ji4 bt169.2 bt175.2 (decide (bt173.1 > bt175.1)))) else (caesuralaw01_ScalarOrder.j0 k ji3 ji4 bt169.2 bt175.2 true)) else (if bt169.1 > bt171.1 then (caesuralaw01_ScalarOrder.j0 k ji3 ji4 bt169.2 bt175.2 true) else (caesuralaw01_ScalarOrder.j0 k ji3 ji4 bt169.2 bt175.2 false))) else (caesuralaw01_ScalarOrder.j0 k ji3 ji4 bt169.2 bt175.2 true)) else (if bt173.2 = true then (if bt175.2 = true then (caesuralaw01_ScalarOrder.j0 k ji3 ji4 bt169.2 bt175.2 (decide (bt173.1 > bt175.1))) else (caesuralaw01_ScalarOrder.j0 k ji3 ji4 bt169.2 bt175.2 true)) else (caesuralaw01_ScalarOrder.j0 k ji3 ji4 bt169.2 bt175.2 false))))))) = some r := by first | (rw [hji4] at H; exact H) | (simp only [hji4] at H ⊢; exact H)
  have hji4_ : (if a0 < a1 then a1 else a0) = ji4 := hji4
  replace H := Option.bind_eq_some_iff.mp H
  obtain ⟨⟨t169, t170⟩, A50, H⟩ := H
  replace H : ((scalar_Next.f (ji4)).bind fun bt171 => ((scalar_Prev.f (ji3)).bind fun bt173 => ((scalar_Prev.f (ji4)).bind fun bt175 => (if bt171.2 = true then (if t170 = true then (if bt173.2 = true then (if bt175.2 = true then (if t169 > bt171.1 then (caesuralaw01_ScalarOrder.j0 k ji3 ji4 t170 bt175.2 true) else (caesuralaw01_ScalarOrder.j0 k ji3 ji4 t170 bt175.2 (decide (bt173.1 > bt175.1)))) else (caesuralaw01_ScalarOrder.j0 k ji3 ji4 t170 bt175.2 true)) else (if t169 > bt171.1 then (caesuralaw01_ScalarOrder.j0 k ji3 ji4 t170 bt175.2 true) else (caesuralaw01_ScalarOrder.j0 k ji3 ji4 t170 bt175.2 false))) else (caesuralaw01_ScalarOrder.j0 k ji3 ji4 t170 bt175.2 true)) else (if bt173.2 = true then (if bt175.2 = true then (caesuralaw01_ScalarOrder.j0 k ji3 ji4 t170 bt175.2 (decide (bt173.1 > bt175.1))) else (caesuralaw01_ScalarOrder.j0 k ji3 ji4 t170 bt175.2 true)) else (caesuralaw01_ScalarOrder.j0 k ji3 ji4 t170 bt175.2 false)))))) = some r := H
  have A5 := Aside0.mk A50
  clear A50
  replace H := Option.bind_eq_some_iff.mp H
  obtain ⟨⟨t171, t172⟩, A60, H⟩ := H
  replace H : ((scalar_Prev.f (ji3)).bind fun bt173 => ((scalar_Prev.f (ji4)).bind fun bt175 => (if t172 = true then (if t170 = true then (if bt173.2 = true then (if bt175.2 = true then (if t169 > t171 then (caesuralaw01_ScalarOrder.j0 k ji3 ji4 t170 bt175.2 true) else (caesuralaw01_ScalarOrder.j0 k ji3 ji4 t170 bt175.2 (decide (bt173.1 > bt175.1)))) else (caesuralaw01_ScalarOrder.j0 k ji3 ji4 t170 bt175.2 true)) else (if t169 > t171 then (caesuralaw01_ScalarOrder.j0 k ji3 ji4 t170 bt175.2 true) else (caesuralaw01_ScalarOrder.j0 k ji3 ji4 t170 bt175.2 false))) else (caesuralaw01_ScalarOrder.j0 k ji3 ji4 t170 bt175.2 true)) else (if bt173.2 = true then (if bt175.2 = true then (caesuralaw01_ScalarOrder.j0 k ji3 ji4 t170 bt175.2 (decide (bt173.1 > bt175.1))) else (caesuralaw01_ScalarOrder.j0 k ji3 ji4 t170 bt175.2 true)) else (caesuralaw01_ScalarOrder.j0 k ji3 ji4 t170 bt175.2 false))))) = some r := H
  have A6 := Aside0.mk A60
  clear A60
  replace H := Option.bind_eq_some_iff.mp H
  obtain ⟨⟨t173, t174⟩, A70, H⟩ := H
  replace H : ((scalar_Prev.f (ji4)).bind fun bt175 => (if t172 = true then (if t170 = true then (if t174 = true then (if bt175.2 = true then (if t169 > t171 then (caesuralaw01_ScalarOrder.j0 k ji3 ji4 t170 bt175.2 true) else (caesuralaw01_ScalarOrder.j0 k ji3 ji4 t170 bt175.2 (decide (t173 > bt175.1)))) else (caesuralaw01_ScalarOrder.j0 k ji3 ji4 t170 bt175.2 true)) else (if t169 > t171 then (caesuralaw01_ScalarOrder.j0 k ji3 ji4 t170 bt175.2 true) else (caesuralaw01_ScalarOrder.j0 k ji3 ji4 t170 bt175.2 false))) else (caesuralaw01_ScalarOrder.j0 k ji3 ji4 t170 bt175.2 true)) else (if t174 = true then (if bt175.2 = true then (caesuralaw01_ScalarOrder.j0 k ji3 ji4 t170 bt175.2 (decide (t173 > bt175.1))) else (caesuralaw01_ScalarOrder.j0 k ji3 ji4 t170 bt175.2 true)) else (caesuralaw01_ScalarOrder.j0 k ji3 ji4 t170 bt175.2 false)))) = some r := H
  have A7 := Aside0.mk A70
  clear A70
  replace H := Option.bind_eq_some_iff.mp H
  obtain ⟨⟨t175, t176⟩, A80, H⟩ := H
  replace H : (if t172 = true then (if t170 = true then (if t174 = true then (if t176 = true then (if t169 > t171 then (caesuralaw01_ScalarOrder.j0 k ji3 ji4 t170 t176 true) else (caesuralaw01_ScalarOrder.j0 k ji3 ji4 t170 t176 (decide (t173 > t175)))) else (caesuralaw01_ScalarOrder.j0 k ji3 ji4 t170 t176 true)) else (if t169 > t171 then (caesuralaw01_ScalarOrder.j0 k ji3 ji4 t170 t176 true) else (caesuralaw01_ScalarOrder.j0 k ji3 ji4 t170 t176 false))) else (caesuralaw01_ScalarOrder.j0 k ji3 ji4 t170 t176 true)) else (if t174 = true then (if t176 = true then (caesuralaw01_ScalarOrder.j0 k ji3 ji4 t170 t176 (decide (t173 > t175))) else (caesuralaw01_ScalarOrder.j0 k ji3 ji4 t170 t176 true)) else (caesuralaw01_ScalarOrder.j0 k ji3 ji4 t170 t176 false))) = some r := H
  have A8 := Aside0.mk A80
  clear A80
  have HC9 := Aside0.mk H
  clear H
  go_enter Try.func6, Try.ntmps6
  go_upto_region 6 with (first | ((with_reducible refine gate_callee (f := 13) rfl ?_); refine goesL_ (some 27) rfl rfl Try.func13 (by kernel_rfl) rfl #[.int .i64 ji3] rfl (by (try simp only [List.map_toArray, List.map_cons, List.map_nil]); first | done | (simp only [hji3]; rfl) | rfl | (simp only [List.length_drop, List.length_take]; rfl)) ?_; (with_reducible refine (scalar_Next.calls ji3 t169 t170 _ A5.out).mono ?_); rintro e w' ⟨rfl, ⟨nd, rfl⟩⟩; refine ⟨_, rfl, ?_⟩) | ((with_reducible refine gate_callee (f := 13) rfl ?_); refine goesL_ (some 32) rfl rfl Try.func13 (by kernel_rfl) rfl #[.int .i64 ji4] rfl (by (try simp only [List.map_toArray, List.map_cons, List.map_nil]); first | done | (simp only [hji4]; rfl) | rfl | (simp only [List.length_drop, List.length_take]; rfl)) ?_; (with_reducible refine (scalar_Next.calls ji4 t171 t172 _ A6.out).mono ?_); rintro e w' ⟨rfl, ⟨nd, rfl⟩⟩; refine ⟨_, rfl, ?_⟩) | ((with_reducible refine gate_callee (f := 14) rfl ?_); refine goesL_ (some 37) rfl rfl Try.func14 (by kernel_rfl) rfl #[.int .i64 ji3] rfl (by (try simp only [List.map_toArray, List.map_cons, List.map_nil]); first | done | (simp only [hji3]; rfl) | rfl | (simp only [List.length_drop, List.length_take]; rfl)) ?_; (with_reducible refine (scalar_Prev.calls ji3 t173 t174 _ A7.out).mono ?_); rintro e w' ⟨rfl, ⟨nd, rfl⟩⟩; refine ⟨_, rfl, ?_⟩) | ((with_reducible refine gate_callee (f := 14) rfl ?_); refine goesL_ (some 42) rfl rfl Try.func14 (by kernel_rfl) rfl #[.int .i64 ji4] rfl (by (try simp only [List.map_toArray, List.map_cons, List.map_nil]); first | done | (simp only [hji4]; rfl) | rfl | (simp only [List.length_drop, List.length_take]; rfl)) ?_; (with_reducible refine (scalar_Prev.calls ji4 t175 t176 _ A8.out).mono ?_); rintro e w' ⟨rfl, ⟨nd, rfl⟩⟩; refine ⟨_, rfl, ?_⟩))
  (try simp only [Act.put, List.setIfInBounds_toArray, List.set_cons_zero, List.set_cons_succ])
  go_cut [72] (fun v72 wc => ∃ (kq : Nat) (x72_8 : Bool), v72 = .bool x72_8 ∧ Aside0 (caesuralaw01_ScalarOrder.j0 kq ji3 ji4 t170 t176 x72_8 = some r) ∧ Aside0 (kq ≤ k) ∧ Aside0 (Below w.heap.size w wc))
  case first =>
    have H := HC9.out
    clear HC9
    by_cases c10 : t172 = true
    · subst c10
      have H1 : (if t170 = true then (if t174 = true then (if t176 = true then (if t169 > t171 then (caesuralaw01_ScalarOrder.j0 k ji3 ji4 t170 t176 true) else (caesuralaw01_ScalarOrder.j0 k ji3 ji4 t170 t176 (decide (t173 > t175)))) else (caesuralaw01_ScalarOrder.j0 k ji3 ji4 t170 t176 true)) else (if t169 > t171 then (caesuralaw01_ScalarOrder.j0 k ji3 ji4 t170 t176 true) else (caesuralaw01_ScalarOrder.j0 k ji3 ji4 t170 t176 false))) else (caesuralaw01_ScalarOrder.j0 k ji3 ji4 t170 t176 true)) = some r := by rw [if_pos rfl] at H; exact H
      clear H
      have H := H1
      clear H1
      by_cases c11 : t170 = true
      · subst c11
        have H1 : (if t174 = true then (if t176 = true then (if t169 > t171 then (caesuralaw01_ScalarOrder.j0 k ji3 ji4 true t176 true) else (caesuralaw01_ScalarOrder.j0 k ji3 ji4 true t176 (decide (t173 > t175)))) else (caesuralaw01_ScalarOrder.j0 k ji3 ji4 true t176 true)) else (if t169 > t171 then (caesuralaw01_ScalarOrder.j0 k ji3 ji4 true t176 true) else (caesuralaw01_ScalarOrder.j0 k ji3 ji4 true t176 false))) = some r := by rw [if_pos rfl] at H; exact H
        clear H
        have H := H1
        clear H1
        by_cases c12 : t174 = true
        · subst c12
          have H1 : (if t176 = true then (if t169 > t171 then (caesuralaw01_ScalarOrder.j0 k ji3 ji4 true t176 true) else (caesuralaw01_ScalarOrder.j0 k ji3 ji4 true t176 (decide (t173 > t175)))) else (caesuralaw01_ScalarOrder.j0 k ji3 ji4 true t176 true)) = some r := by rw [if_pos rfl] at H; exact H
          clear H
          have H := H1
          clear H1
          by_cases c13 : t176 = true
          · subst c13
            have H1 : (if t169 > t171 then (caesuralaw01_ScalarOrder.j0 k ji3 ji4 true true true) else (caesuralaw01_ScalarOrder.j0 k ji3 ji4 true true (decide (t173 > t175)))) = some r := by rw [if_pos rfl] at H; exact H
            clear H
            have H := H1
            clear H1
            by_cases c14 : t169 > t171
            · rw [if_pos c14] at H
              have c14b0 : decide (t171 < t169) = true := decide_eq_true c14
              clear c14
              (first | rw [c14b0] | (simp only [i64_w, i32_w]; rw [c14b0]) | skip)
              have H' := Aside0.mk H
              clear H
              go_wp2
              go_meet
              case rel => exact ⟨_, (true), (by first | rfl | (simp; done) | (simp [*]; done)), H', ⟨by first | omega | exact Nat.le_refl _⟩, ⟨by repeat (first | (with_reducible first | exact HB.out | apply below_alloc | apply pw_below_drewN | apply below_drew1) | exact HB.out)⟩⟩
            · rw [if_neg c14] at H
              have c14b0 : decide (t171 < t169) = false := decide_eq_false c14
              clear c14
              (first | rw [c14b0] | (simp only [i64_w, i32_w]; rw [c14b0]) | skip)
              have H' := Aside0.mk H
              clear H
              go_wp2
              go_meet
              case rel => exact ⟨_, (decide (t173 > t175)), (by first | rfl | (simp; done) | (simp [*]; done)), H', ⟨by first | omega | exact Nat.le_refl _⟩, ⟨by repeat (first | (with_reducible first | exact HB.out | apply below_alloc | apply pw_below_drewN | apply below_drew1) | exact HB.out)⟩⟩
          · replace c13 := Bool.eq_false_iff.mpr c13
            subst c13
            have H1 : (caesuralaw01_ScalarOrder.j0 k ji3 ji4 true false true) = some r := by rw [if_neg (show ¬ (false = true) by decide)] at H; exact H
            clear H
            have H := H1
            clear H1
            have H' := Aside0.mk H
            clear H
            go_wp2
            go_meet
            case rel => exact ⟨_, (true), (by first | rfl | (simp; done) | (simp [*]; done)), H', ⟨by first | omega | exact Nat.le_refl _⟩, ⟨by repeat (first | (with_reducible first | exact HB.out | apply below_alloc | apply pw_below_drewN | apply below_drew1) | exact HB.out)⟩⟩
        · replace c12 := Bool.eq_false_iff.mpr c12
          subst c12
          have H1 : (if t169 > t171 then (caesuralaw01_ScalarOrder.j0 k ji3 ji4 true t176 true) else (caesuralaw01_ScalarOrder.j0 k ji3 ji4 true t176 false)) = some r := by rw [if_neg (show ¬ (false = true) by decide)] at H; exact H
          clear H
          have H := H1
          clear H1
          by_cases c15 : t169 > t171
          · rw [if_pos c15] at H
            have c15b0 : decide (t171 < t169) = true := decide_eq_true c15
            clear c15
            have H' := Aside0.mk H
            clear H
            go_wp2
            go_meet
            case rel => exact ⟨_, (true), (by first | rfl | (simp; done) | (simp [*]; done)), H', ⟨by first | omega | exact Nat.le_refl _⟩, ⟨by repeat (first | (with_reducible first | exact HB.out | apply below_alloc | apply pw_below_drewN | apply below_drew1) | exact HB.out)⟩⟩
          · rw [if_neg c15] at H
            have c15b0 : decide (t171 < t169) = false := decide_eq_false c15
            clear c15
            have H' := Aside0.mk H
            clear H
            go_wp2
            go_meet
            case rel => exact ⟨_, (false), (by first | rfl | (simp; done) | (simp [*]; done)), H', ⟨by first | omega | exact Nat.le_refl _⟩, ⟨by repeat (first | (with_reducible first | exact HB.out | apply below_alloc | apply pw_below_drewN | apply below_drew1) | exact HB.out)⟩⟩
      · replace c11 := Bool.eq_false_iff.mpr c11
        subst c11
        have H1 : (caesuralaw01_ScalarOrder.j0 k ji3 ji4 false t176 true) = some r := by rw [if_neg (show ¬ (false = true) by decide)] at H; exact H
        clear H
        have H := H1
        clear H1
        have H' := Aside0.mk H
        clear H
        go_wp2
        go_meet
        case rel => exact ⟨_, (true), (by first | rfl | (simp; done) | (simp [*]; done)), H', ⟨by first | omega | exact Nat.le_refl _⟩, ⟨by repeat (first | (with_reducible first | exact HB.out | apply below_alloc | apply pw_below_drewN | apply below_drew1) | exact HB.out)⟩⟩
    · replace c10 := Bool.eq_false_iff.mpr c10
      subst c10
      have H1 : (if t174 = true then (if t176 = true then (caesuralaw01_ScalarOrder.j0 k ji3 ji4 t170 t176 (decide (t173 > t175))) else (caesuralaw01_ScalarOrder.j0 k ji3 ji4 t170 t176 true)) else (caesuralaw01_ScalarOrder.j0 k ji3 ji4 t170 t176 false)) = some r := by rw [if_neg (show ¬ (false = true) by decide)] at H; exact H
      clear H
      have H := H1
      clear H1
      by_cases c16 : t174 = true
      · subst c16
        have H1 : (if t176 = true then (caesuralaw01_ScalarOrder.j0 k ji3 ji4 t170 t176 (decide (t173 > t175))) else (caesuralaw01_ScalarOrder.j0 k ji3 ji4 t170 t176 true)) = some r := by rw [if_pos rfl] at H; exact H
        clear H
        have H := H1
        clear H1
        by_cases c17 : t176 = true
        · subst c17
          have H1 : (caesuralaw01_ScalarOrder.j0 k ji3 ji4 t170 true (decide (t173 > t175))) = some r := by rw [if_pos rfl] at H; exact H
          clear H
          have H := H1
          clear H1
          have H' := Aside0.mk H
          clear H
          go_wp2
          go_meet
          case rel => exact ⟨_, (decide (t173 > t175)), (by first | rfl | (simp; done) | (simp [*]; done)), H', ⟨by first | omega | exact Nat.le_refl _⟩, ⟨by repeat (first | (with_reducible first | exact HB.out | apply below_alloc | apply pw_below_drewN | apply below_drew1) | exact HB.out)⟩⟩
        · replace c17 := Bool.eq_false_iff.mpr c17
          subst c17
          have H1 : (caesuralaw01_ScalarOrder.j0 k ji3 ji4 t170 false true) = some r := by rw [if_neg (show ¬ (false = true) by decide)] at H; exact H
          clear H
          have H := H1
          clear H1
          have H' := Aside0.mk H
          clear H
          go_wp2
          go_meet
          case rel => exact ⟨_, (true), (by first | rfl | (simp; done) | (simp [*]; done)), H', ⟨by first | omega | exact Nat.le_refl _⟩, ⟨by repeat (first | (with_reducible first | exact HB.out | apply below_alloc | apply pw_below_drewN | apply below_drew1) | exact HB.out)⟩⟩
      · replace c16 := Bool.eq_false_iff.mpr c16
        subst c16
        have H1 : (caesuralaw01_ScalarOrder.j0 k ji3 ji4 t170 t176 false) = some r := by rw [if_neg (show ¬ (false = true) by decide)] at H; exact H
        clear H
        have H := H1
        clear H1
        have H' := Aside0.mk H
        clear H
        go_wp2
        go_meet
        case rel => exact ⟨_, (false), (by first | rfl | (simp; done) | (simp [*]; done)), H', ⟨by first | omega | exact Nat.le_refl _⟩, ⟨by repeat (first | (with_reducible first | exact HB.out | apply below_alloc | apply pw_below_drewN | apply below_drew1) | exact HB.out)⟩⟩
  case rest =>
    clear HC9
    try clear c1
    try clear p2
    try clear c6
    try clear c10
    try clear c11
    try clear c12
    try clear c13
    try clear c14
    try clear c14b0
    try clear c15
    try clear c15b0
    try clear c16
    try clear c17
    obtain ⟨kq, x72_8, rfl, HA, HJ8, HB⟩ := hcut
    cases kq with
    | zero => exact absurd HA.out (by simp [caesuralaw01_ScalarOrder.j0])
    | succ kj8 =>
      have H := HA.out
      clear HA
      simp only [caesuralaw01_ScalarOrder.j0] at H
      by_cases c18 : x72_8 = true
      · subst c18
        have H1 : (none) = some r := by rw [if_pos rfl] at H; exact H
        clear H
        have H := H1
        clear H1
        exact absurd H (by simp)
      · replace c18 := Bool.eq_false_iff.mpr c18
        subst c18
        have H1 : ((scalar_Prev.f 0).bind fun bt177 => ((scalar_Next.f 1114111).bind fun bt179 => (if bt177.2 = true then (none) else (if bt179.2 = true then (none) else (if (t170 == (decide (ji3 < 1114111))) = true then (if (t176 == (decide (ji4 > 0))) = true then ((caesuralaw01_wakes.f).bind fun t181 => (some t181)) else (none)) else (none)))))) = some r := by rw [if_neg (show ¬ (false = true) by decide)] at H; exact H
        clear H
        have H := H1
        clear H1
        replace H := Option.bind_eq_some_iff.mp H
        obtain ⟨⟨t177, t178⟩, A190, H⟩ := H
        replace H : ((scalar_Next.f 1114111).bind fun bt179 => (if t178 = true then (none) else (if bt179.2 = true then (none) else (if (t170 == (decide (ji3 < 1114111))) = true then (if (t176 == (decide (ji4 > 0))) = true then ((caesuralaw01_wakes.f).bind fun t181 => (some t181)) else (none)) else (none))))) = some r := H
        have A19 := Aside0.mk A190
        clear A190
        replace H := Option.bind_eq_some_iff.mp H
        obtain ⟨⟨t179, t180⟩, A200, H⟩ := H
        replace H : (if t178 = true then (none) else (if t180 = true then (none) else (if (t170 == (decide (ji3 < 1114111))) = true then (if (t176 == (decide (ji4 > 0))) = true then ((caesuralaw01_wakes.f).bind fun t181 => (some t181)) else (none)) else (none)))) = some r := H
        have A20 := Aside0.mk A200
        clear A200
        by_cases c21 : t178 = true
        · subst c21
          have H1 : (none) = some r := by rw [if_pos rfl] at H; exact H
          clear H
          have H := H1
          clear H1
          exact absurd H (by simp)
        · replace c21 := Bool.eq_false_iff.mpr c21
          subst c21
          have H1 : (if t180 = true then (none) else (if (t170 == (decide (ji3 < 1114111))) = true then (if (t176 == (decide (ji4 > 0))) = true then ((caesuralaw01_wakes.f).bind fun t181 => (some t181)) else (none)) else (none))) = some r := by rw [if_neg (show ¬ (false = true) by decide)] at H; exact H
          clear H
          have H := H1
          clear H1
          by_cases c22 : t180 = true
          · subst c22
            have H1 : (none) = some r := by rw [if_pos rfl] at H; exact H
            clear H
            have H := H1
            clear H1
            exact absurd H (by simp)
          · replace c22 := Bool.eq_false_iff.mpr c22
            subst c22
            have H1 : (if (t170 == (decide (ji3 < 1114111))) = true then (if (t176 == (decide (ji4 > 0))) = true then ((caesuralaw01_wakes.f).bind fun t181 => (some t181)) else (none)) else (none)) = some r := by rw [if_neg (show ¬ (false = true) by decide)] at H; exact H
            clear H
            have H := H1
            clear H1
            by_cases c23 : (t170 == (decide (ji3 < 1114111))) = true
            · rw [if_pos c23] at H
              have c23b0 : (t170 == (decide (ji3 < 1114111))) = true := c23
              (try (have c23b1 : decide (t170 = (decide (ji3 < 1114111))) = true := by simpa using c23))
              (try (have c23b2 : (t170 == (decide (ji3 < 1114111))) = true := by simpa using c23))
              clear c23
              by_cases c24 : (t176 == (decide (ji4 > 0))) = true
              · rw [if_pos c24] at H
                have c24b0 : (t176 == (decide (ji4 > 0))) = true := c24
                (try (have c24b1 : decide (t176 = (decide (ji4 > 0))) = true := by simpa using c24))
                (try (have c24b2 : (t176 == (decide (ji4 > 0))) = true := by simpa using c24))
                clear c24
                replace H := Option.bind_eq_some_iff.mp H
                obtain ⟨t181, A250, H⟩ := H
                replace H : (some t181) = some r := H
                have A25 := Aside0.mk A250
                clear A250
                obtain rfl := Option.some.inj H
                go_wp2_with (first | ((with_reducible refine gate_callee (f := 14) rfl ?_); refine goesL_ (some 74) rfl rfl Try.func14 (by kernel_rfl) rfl #[.int .i64 0] rfl (by (try simp only [List.map_toArray, List.map_cons, List.map_nil]); first | done | rfl | (simp only [List.length_drop, List.length_take]; rfl)) ?_; (with_reducible refine (scalar_Prev.calls 0 t177 false _ A19.out).mono ?_); rintro e w' ⟨rfl, ⟨nd, rfl⟩⟩; refine ⟨_, rfl, ?_⟩) | ((with_reducible refine gate_callee (f := 13) rfl ?_); refine goesL_ (some 78) rfl rfl Try.func13 (by kernel_rfl) rfl #[.int .i64 1114111] rfl (by (try simp only [List.map_toArray, List.map_cons, List.map_nil]); first | done | rfl | (simp only [List.length_drop, List.length_take]; rfl)) ?_; (with_reducible refine (scalar_Next.calls 1114111 t179 false _ A20.out).mono ?_); rintro e w' ⟨rfl, ⟨nd, rfl⟩⟩; refine ⟨_, rfl, ?_⟩) | (go_at_call 23; (with_reducible refine (caesuralaw01_wakes.calls  t181 _ A25.out).mono ?_); rintro e w26 ⟨rfl, hb⟩; have n0_ := Aside0.mk (below_step (by repeat (first | (with_reducible first | exact HB.out | apply below_alloc | apply pw_below_drewN | apply below_drew1) | exact HB.out)) hb); clear HB; have HB := n0_; clear n0_; (try clear hb); (try clear hb2); (try clear hk); (try clear hi)))
                go_ret
                exact ⟨by first | rfl | (simp [errW_none, errW_some] <;> rfl) | (simp only [← hji3, ← hji4]; first | rfl | (simp [errW_none, errW_some] <;> rfl)) | (simp [*, errW_none, errW_some] <;> rfl), by repeat (first | (with_reducible first | exact HB.out | apply below_alloc | apply pw_below_drewN | apply below_drew1) | exact HB.out)⟩
              · rw [if_neg c24] at H
                exact absurd H (by simp)
            · rw [if_neg c23] at H
              exact absurd H (by simp)

/-- THE ONE PURE STATEMENT of caesuralaw01_ScalarOrder. -/
def caesuralaw01_ScalarOrder.Pure : Prop := ∀ (x0 : Int) (x1 : Int), (Lit.int .i64 x0).wf = true → (Lit.int .i64 x1).wf = true → ∃ k, caesuralaw01_ScalarOrder.f k x0 x1 = some true

/-! ### caesuralaw01_ScalarIndex: function 7 -/
def caesuralaw01_ScalarIndex.l0 : Nat → Int → Int → Int → Int → Int → Option (Bool)
  | 0, _, _, _, _, _ => none
  | k + 1, x0, x1, x5, x7, x8 => if x8 < (Int.tmod (wrap64 (x1)) 20) then ((scalar_Next.f x7).bind fun bt191 => (if bt191.2 = true then ((scalar_Index.f bt191.1).bind fun bt193 => (if bt193.2 = true then (if bt193.1 = (wrap64 ((wrap64 (x5 + x8)) + 1)) then (caesuralaw01_ScalarIndex.l0 k x0 x1 x5 bt191.1 (wrap64 (x8 + 1))) else (none)) else (none))) else (if x7 = 1114111 then ((caesuralaw01_wakes.f).bind fun t195 => (some t195)) else (none)))) else (if x0 = 0 then (if x5 = 0 then ((caesuralaw01_wakes.f).bind fun t186 => (some t186)) else (if x0 > 0 then ((scalar_Count.f 0 (wrap64 (x0 - 1))).bind fun t187 => (if x5 = t187 then ((caesuralaw01_wakes.f).bind fun t188 => (some t188)) else (none))) else (none))) else (if x0 > 0 then ((scalar_Count.f 0 (wrap64 (x0 - 1))).bind fun t189 => (if x5 = t189 then ((caesuralaw01_wakes.f).bind fun t190 => (some t190)) else (none))) else (none)))
def caesuralaw01_ScalarIndex.f (k : Nat) (a0 : Int) (a1 : Int) : Option (Bool) := (scalar_Index.f a0).bind fun bt182 => ((scalar_Is.f a0).bind fun t184 => (if (bt182.2 != t184) = true then (none) else (if bt182.2 = true then (caesuralaw01_ScalarIndex.l0 k a0 a1 bt182.1 a0 0) else (if bt182.1 = 0 then ((caesuralaw01_wakes.f).bind fun t185 => (some t185)) else (none)))))
theorem caesuralaw01_ScalarIndex.mono_l : ∀ k, (∀ y0 y1 y2 y3 y4, LeO (caesuralaw01_ScalarIndex.l0 k y0 y1 y2 y3 y4) (caesuralaw01_ScalarIndex.l0 (k + 1) y0 y1 y2 y3 y4))
  | 0 => fun _ _ _ _ _ r h => by simp [caesuralaw01_ScalarIndex.l0] at h
  | k + 1 => by
    have ih0 := caesuralaw01_ScalarIndex.mono_l k
    · intro y0 y1 y2 y3 y4
      unfold caesuralaw01_ScalarIndex.l0
      repeat' first
      | (with_reducible exact ih0 _ _ _ _ _)
      | (with_reducible exact LeO.refl _)
      | (with_reducible exact LeO.none _)
      | (with_reducible refine LeO.ite ?_ ?_)
      | (with_reducible refine LeO.bind ?_ (fun _ => ?_))
      | exact ih0 _ _ _ _ _
      | exact LeO.none _
      | refine LeO.ite ?_ ?_
      | refine LeO.bind ?_ (fun _ => ?_)
theorem caesuralaw01_ScalarIndex.mono : ∀ a0 a1 k, LeO (caesuralaw01_ScalarIndex.f k a0 a1) (caesuralaw01_ScalarIndex.f (k + 1) a0 a1) := by
  intro a0 a1 k
  have ih0 := caesuralaw01_ScalarIndex.mono_l k
  unfold caesuralaw01_ScalarIndex.f
  repeat' first
      | (with_reducible exact ih0 _ _ _ _ _)
      | (with_reducible exact LeO.refl _)
      | (with_reducible exact LeO.none _)
      | (with_reducible refine LeO.ite ?_ ?_)
      | (with_reducible refine LeO.bind ?_ (fun _ => ?_))
      | exact ih0 _ _ _ _ _
      | exact LeO.none _
      | refine LeO.ite ?_ ?_
      | refine LeO.bind ?_ (fun _ => ?_)
set_option maxHeartbeats 8000000 in
set_option maxRecDepth 100000 in
theorem caesuralaw01_ScalarIndex.calls (k : Nat) (a0 : Int) (a1 : Int) (r : Bool) (w : World) (h : caesuralaw01_ScalarIndex.f k a0 a1 = some r) :
    Calls Try.prog 7 #[.int .i64 a0, .int .u8 a1] w fun e w' => e = .returned (.bool r) ∧ Below w.heap.size w w' := by
  have HB := Aside0.mk (Below.refl w.heap.size w)
  have H : ((scalar_Index.f a0).bind fun bt182 => ((scalar_Is.f a0).bind fun t184 => (if (bt182.2 != t184) = true then (none) else (if bt182.2 = true then (caesuralaw01_ScalarIndex.l0 k a0 a1 bt182.1 a0 0) else (if bt182.1 = 0 then ((caesuralaw01_wakes.f).bind fun t185 => (some t185)) else (none)))))) = some r := h
  clear h
  replace H := Option.bind_eq_some_iff.mp H
  obtain ⟨⟨t182, t183⟩, A30, H⟩ := H
  replace H : ((scalar_Is.f a0).bind fun t184 => (if (t183 != t184) = true then (none) else (if t183 = true then (caesuralaw01_ScalarIndex.l0 k a0 a1 t182 a0 0) else (if t182 = 0 then ((caesuralaw01_wakes.f).bind fun t185 => (some t185)) else (none))))) = some r := H
  have A3 := Aside0.mk A30
  clear A30
  replace H := Option.bind_eq_some_iff.mp H
  obtain ⟨t184, A40, H⟩ := H
  replace H : (if (t183 != t184) = true then (none) else (if t183 = true then (caesuralaw01_ScalarIndex.l0 k a0 a1 t182 a0 0) else (if t182 = 0 then ((caesuralaw01_wakes.f).bind fun t185 => (some t185)) else (none)))) = some r := H
  have A4 := Aside0.mk A40
  clear A40
  by_cases c5 : (t183 != t184) = true
  · rw [if_pos c5] at H
    exact absurd H (by simp)
  · rw [if_neg c5] at H
    have c5b0 : (t183 != t184) = false := by simpa using c5
    (try (have c5b1 : decide (t183 = t184) = true := by simpa using c5))
    (try (have c5b2 : (t183 == t184) = true := by simpa using c5))
    clear c5
    by_cases c6 : t183 = true
    · subst c6
      have H1 : (caesuralaw01_ScalarIndex.l0 k a0 a1 t182 a0 0) = some r := by rw [if_pos rfl] at H; exact H
      clear H
      have H := H1
      clear H1
      have H' := Aside0.mk H
      clear H
      go_enter Try.func7, Try.ntmps7
      go_wp2_with (first | ((with_reducible refine gate_callee (f := 15) rfl ?_); refine goesL_ (some 15) rfl rfl Try.func15 (by kernel_rfl) rfl #[.int .i64 a0] rfl (by (try simp only [List.map_toArray, List.map_cons, List.map_nil]); first | done | rfl | (simp only [List.length_drop, List.length_take]; rfl)) ?_; (with_reducible refine (scalar_Index.calls a0 t182 true _ A3.out).mono ?_); rintro e w7 ⟨rfl, hb⟩; refine ⟨_, rfl, ?_⟩; have n0_ := Aside0.mk (below_step (by repeat (first | (with_reducible first | exact HB.out | apply below_alloc | apply pw_below_drewN | apply below_drew1) | exact HB.out)) hb); clear HB; have HB := n0_; clear n0_; (try clear hb); (try clear hb2); (try clear hk); (try clear hi)) | ((with_reducible refine gate_callee (f := 20) rfl ?_); refine goesL_ (some 20) rfl rfl Try.func20 (by kernel_rfl) rfl #[.int .i64 a0] rfl (by (try simp only [List.map_toArray, List.map_cons, List.map_nil]); first | done | rfl | (simp only [List.length_drop, List.length_take]; rfl)) ?_; (with_reducible refine (scalar_Is.calls a0 t184 _ A4.out).mono ?_); rintro e w' ⟨rfl, ⟨nd, rfl⟩⟩; refine ⟨_, rfl, ?_⟩))
      go_loopg [7, 8] k (fun kq v7 v8 w' => ∃ (x7_1 : Int) (x8_1 : Int), v7 = .int .i64 x7_1 ∧ v8 = .int .i64 x8_1 ∧ Aside0 (caesuralaw01_ScalarIndex.l0 kq a0 a1 t182 x7_1 x8_1 = some r) ∧ Aside0 (kq ≤ k) ∧ Aside0 (Below w.heap.size w w'))
      case atStart => exact ⟨(a0), (0), (by first | rfl | (simp; done) | (simp [*]; done)), (by first | rfl | (simp; done) | (simp [*]; done)), H', ⟨Nat.le_refl _⟩, ⟨by repeat (first | (with_reducible first | exact HB.out | apply below_alloc | apply pw_below_drewN | apply below_drew1) | exact HB.out)⟩⟩
      case round =>
        clear H'
        try clear c1
        try clear c2
        try clear p2
        try clear c5
        try clear c5b0
        try clear c5b1
        try clear c5b2
        try clear c6
        try clear c7
        obtain ⟨x7_1, x8_1, rfl, rfl, HA, HK1, HB⟩ := hrel
        cases gk with
        | zero => exact absurd HA.out (by simp [caesuralaw01_ScalarIndex.l0])
        | succ k1 =>
          have H := HA.out
          clear HA
          simp only [caesuralaw01_ScalarIndex.l0] at H
          by_cases c8 : x8_1 < (Int.tmod (wrap64 (a1)) 20)
          · rw [if_pos c8] at H
            have c8b0 : decide (x8_1 < (Int.tmod (wrap64 (a1)) 20)) = true := decide_eq_true c8
            clear c8
            replace H := Option.bind_eq_some_iff.mp H
            obtain ⟨⟨t191, t192⟩, A90, H⟩ := H
            replace H : (if t192 = true then ((scalar_Index.f t191).bind fun bt193 => (if bt193.2 = true then (if bt193.1 = (wrap64 ((wrap64 (t182 + x8_1)) + 1)) then (caesuralaw01_ScalarIndex.l0 k1 a0 a1 t182 t191 (wrap64 (x8_1 + 1))) else (none)) else (none))) else (if x7_1 = 1114111 then ((caesuralaw01_wakes.f).bind fun t195 => (some t195)) else (none))) = some r := H
            have A9 := Aside0.mk A90
            clear A90
            by_cases c10 : t192 = true
            · subst c10
              have H1 : ((scalar_Index.f t191).bind fun bt193 => (if bt193.2 = true then (if bt193.1 = (wrap64 ((wrap64 (t182 + x8_1)) + 1)) then (caesuralaw01_ScalarIndex.l0 k1 a0 a1 t182 t191 (wrap64 (x8_1 + 1))) else (none)) else (none))) = some r := by rw [if_pos rfl] at H; exact H
              clear H
              have H := H1
              clear H1
              replace H := Option.bind_eq_some_iff.mp H
              obtain ⟨⟨t193, t194⟩, A110, H⟩ := H
              replace H : (if t194 = true then (if t193 = (wrap64 ((wrap64 (t182 + x8_1)) + 1)) then (caesuralaw01_ScalarIndex.l0 k1 a0 a1 t182 t191 (wrap64 (x8_1 + 1))) else (none)) else (none)) = some r := H
              have A11 := Aside0.mk A110
              clear A110
              by_cases c12 : t194 = true
              · subst c12
                have H1 : (if t193 = (wrap64 ((wrap64 (t182 + x8_1)) + 1)) then (caesuralaw01_ScalarIndex.l0 k1 a0 a1 t182 t191 (wrap64 (x8_1 + 1))) else (none)) = some r := by rw [if_pos rfl] at H; exact H
                clear H
                have H := H1
                clear H1
                by_cases c13 : t193 = (wrap64 ((wrap64 (t182 + x8_1)) + 1))
                · rw [if_pos c13] at H
                  have c13b0 : (t193 == (wrap64 ((wrap64 (t182 + x8_1)) + 1))) = true := beq_iff_eq.mpr c13
                  have c13b1 : (t193 != (wrap64 ((wrap64 (t182 + x8_1)) + 1))) = false := bne_eq_false_iff_eq.mpr c13
                  clear c13
                  have H' := Aside0.mk H
                  clear H
                  go_wp2_with (first | ((with_reducible refine gate_callee (f := 13) rfl ?_); refine goesL_ (some 39) rfl rfl Try.func13 (by kernel_rfl) rfl #[.int .i64 x7_1] rfl (by (try simp only [List.map_toArray, List.map_cons, List.map_nil]); first | done | rfl | (simp only [List.length_drop, List.length_take]; rfl)) ?_; (with_reducible refine (scalar_Next.calls x7_1 t191 true _ A9.out).mono ?_); rintro e w' ⟨rfl, ⟨nd, rfl⟩⟩; refine ⟨_, rfl, ?_⟩) | ((with_reducible refine gate_callee (f := 15) rfl ?_); refine goesL_ (some 51) rfl rfl Try.func15 (by kernel_rfl) rfl #[.int .i64 t191] rfl (by (try simp only [List.map_toArray, List.map_cons, List.map_nil]); first | done | rfl | (simp only [List.length_drop, List.length_take]; rfl)) ?_; (with_reducible refine (scalar_Index.calls t191 t193 true _ A11.out).mono ?_); rintro e w14 ⟨rfl, hb⟩; refine ⟨_, rfl, ?_⟩; have n0_ := Aside0.mk (below_step (by repeat (first | (with_reducible first | exact HB.out | apply below_alloc | apply pw_below_drewN | apply below_drew1) | exact HB.out)) hb); clear HB; have HB := n0_; clear n0_; (try clear hb); (try clear hb2); (try clear hk); (try clear hi)))
                  go_roundg k1
                  case measure => have := HK1.out; omega
                  case rel => exact ⟨(t191), (wrap64 (x8_1 + 1)), (by first | rfl | (simp; done) | (simp [*]; done)), (by first | rfl | (simp; done) | (simp [*]; done)), H', ⟨by have := HK1.out; omega⟩, ⟨by repeat (first | (with_reducible first | exact HB.out | apply below_alloc | apply pw_below_drewN | apply below_drew1) | exact HB.out)⟩⟩
                · rw [if_neg c13] at H
                  exact absurd H (by simp)
              · replace c12 := Bool.eq_false_iff.mpr c12
                subst c12
                have H1 : (none) = some r := by rw [if_neg (show ¬ (false = true) by decide)] at H; exact H
                clear H
                have H := H1
                clear H1
                exact absurd H (by simp)
            · replace c10 := Bool.eq_false_iff.mpr c10
              subst c10
              have H1 : (if x7_1 = 1114111 then ((caesuralaw01_wakes.f).bind fun t195 => (some t195)) else (none)) = some r := by rw [if_neg (show ¬ (false = true) by decide)] at H; exact H
              clear H
              have H := H1
              clear H1
              by_cases c15 : x7_1 = 1114111
              · rw [if_pos c15] at H
                have c15b0 : (x7_1 == 1114111) = true := beq_iff_eq.mpr c15
                have c15b1 : (x7_1 != 1114111) = false := bne_eq_false_iff_eq.mpr c15
                clear c15
                replace H := Option.bind_eq_some_iff.mp H
                obtain ⟨t195, A160, H⟩ := H
                replace H : (some t195) = some r := H
                have A16 := Aside0.mk A160
                clear A160
                obtain rfl := Option.some.inj H
                go_wp2_with (first | ((with_reducible refine gate_callee (f := 13) rfl ?_); refine goesL_ (some 39) rfl rfl Try.func13 (by kernel_rfl) rfl #[.int .i64 x7_1] rfl (by (try simp only [List.map_toArray, List.map_cons, List.map_nil]); first | done | rfl | (simp only [List.length_drop, List.length_take]; rfl)) ?_; (with_reducible refine (scalar_Next.calls x7_1 t191 false _ A9.out).mono ?_); rintro e w' ⟨rfl, ⟨nd, rfl⟩⟩; refine ⟨_, rfl, ?_⟩) | (go_at_call 23; (with_reducible refine (caesuralaw01_wakes.calls  t195 _ A16.out).mono ?_); rintro e w17 ⟨rfl, hb⟩; have n0_ := Aside0.mk (below_step (by repeat (first | (with_reducible first | exact HB.out | apply below_alloc | apply pw_below_drewN | apply below_drew1) | exact HB.out)) hb); clear HB; have HB := n0_; clear n0_; (try clear hb); (try clear hb2); (try clear hk); (try clear hi)))
                go_ret
                exact ⟨by first | rfl | (simp [errW_none, errW_some] <;> rfl) | (simp [*, errW_none, errW_some] <;> rfl), by repeat (first | (with_reducible first | exact HB.out | apply below_alloc | apply pw_below_drewN | apply below_drew1) | exact HB.out)⟩
              · rw [if_neg c15] at H
                exact absurd H (by simp)
          · rw [if_neg c8] at H
            have c8b0 : decide (x8_1 < (Int.tmod (wrap64 (a1)) 20)) = false := decide_eq_false c8
            clear c8
            by_cases c18 : a0 = 0
            · rw [if_pos c18] at H
              have c18b0 : (a0 == 0) = true := beq_iff_eq.mpr c18
              have c18b1 : (a0 != 0) = false := bne_eq_false_iff_eq.mpr c18
              clear c18
              by_cases c19 : t182 = 0
              · rw [if_pos c19] at H
                have c19b0 : (t182 == 0) = true := beq_iff_eq.mpr c19
                have c19b1 : (t182 != 0) = false := bne_eq_false_iff_eq.mpr c19
                clear c19
                replace H := Option.bind_eq_some_iff.mp H
                obtain ⟨t186, A200, H⟩ := H
                replace H : (some t186) = some r := H
                have A20 := Aside0.mk A200
                clear A200
                obtain rfl := Option.some.inj H
                go_wp2_with (first | (go_at_call 23; (with_reducible refine (caesuralaw01_wakes.calls  t186 _ A20.out).mono ?_); rintro e w21 ⟨rfl, hb⟩; have n0_ := Aside0.mk (below_step (by repeat (first | (with_reducible first | exact HB.out | apply below_alloc | apply pw_below_drewN | apply below_drew1) | exact HB.out)) hb); clear HB; have HB := n0_; clear n0_; (try clear hb); (try clear hb2); (try clear hk); (try clear hi)))
                go_ret
                exact ⟨by first | rfl | (simp [errW_none, errW_some] <;> rfl) | (simp [*, errW_none, errW_some] <;> rfl), by repeat (first | (with_reducible first | exact HB.out | apply below_alloc | apply pw_below_drewN | apply below_drew1) | exact HB.out)⟩
              · rw [if_neg c19] at H
                have c19b0 : (t182 == 0) = false := beq_eq_false_iff_ne.mpr c19
                have c19b1 : (t182 != 0) = true := bne_iff_ne.mpr c19
                by_cases c22 : a0 > 0
                · rw [if_pos c22] at H
                  have c22b0 : decide (0 < a0) = true := decide_eq_true c22
                  clear c22
                  replace H := Option.bind_eq_some_iff.mp H
                  obtain ⟨t187, A230, H⟩ := H
                  replace H : (if t182 = t187 then ((caesuralaw01_wakes.f).bind fun t188 => (some t188)) else (none)) = some r := H
                  have A23 := Aside0.mk A230
                  clear A230
                  by_cases c24 : t182 = t187
                  · rw [if_pos c24] at H
                    have c24b0 : (t182 == t187) = true := beq_iff_eq.mpr c24
                    have c24b1 : (t182 != t187) = false := bne_eq_false_iff_eq.mpr c24
                    clear c24
                    replace H := Option.bind_eq_some_iff.mp H
                    obtain ⟨t188, A250, H⟩ := H
                    replace H : (some t188) = some r := H
                    have A25 := Aside0.mk A250
                    clear A250
                    obtain rfl := Option.some.inj H
                    go_wp2_with (first | (go_at_call 21; (with_reducible refine (scalar_Count.calls 0 (wrap64 (a0 - 1)) t187 _ A23.out).mono ?_); rintro e w26 ⟨rfl, hb⟩; have n0_ := Aside0.mk (below_step (by repeat (first | (with_reducible first | exact HB.out | apply below_alloc | apply pw_below_drewN | apply below_drew1) | exact HB.out)) hb); clear HB; have HB := n0_; clear n0_; (try clear hb); (try clear hb2); (try clear hk); (try clear hi)) | (go_at_call 23; (with_reducible refine (caesuralaw01_wakes.calls  t188 _ A25.out).mono ?_); rintro e w27 ⟨rfl, hb⟩; have n0_ := Aside0.mk (below_step (by repeat (first | (with_reducible first | exact HB.out | apply below_alloc | apply pw_below_drewN | apply below_drew1) | exact HB.out)) hb); clear HB; have HB := n0_; clear n0_; (try clear hb); (try clear hb2); (try clear hk); (try clear hi)))
                    go_ret
                    exact ⟨by first | rfl | (simp [errW_none, errW_some] <;> rfl) | (simp [*, errW_none, errW_some] <;> rfl), by repeat (first | (with_reducible first | exact HB.out | apply below_alloc | apply pw_below_drewN | apply below_drew1) | exact HB.out)⟩
                  · rw [if_neg c24] at H
                    exact absurd H (by simp)
                · rw [if_neg c22] at H
                  exact absurd H (by simp)
            · rw [if_neg c18] at H
              have c18b0 : (a0 == 0) = false := beq_eq_false_iff_ne.mpr c18
              have c18b1 : (a0 != 0) = true := bne_iff_ne.mpr c18
              by_cases c28 : a0 > 0
              · rw [if_pos c28] at H
                have c28b0 : decide (0 < a0) = true := decide_eq_true c28
                clear c28
                replace H := Option.bind_eq_some_iff.mp H
                obtain ⟨t189, A290, H⟩ := H
                replace H : (if t182 = t189 then ((caesuralaw01_wakes.f).bind fun t190 => (some t190)) else (none)) = some r := H
                have A29 := Aside0.mk A290
                clear A290
                by_cases c30 : t182 = t189
                · rw [if_pos c30] at H
                  have c30b0 : (t182 == t189) = true := beq_iff_eq.mpr c30
                  have c30b1 : (t182 != t189) = false := bne_eq_false_iff_eq.mpr c30
                  clear c30
                  replace H := Option.bind_eq_some_iff.mp H
                  obtain ⟨t190, A310, H⟩ := H
                  replace H : (some t190) = some r := H
                  have A31 := Aside0.mk A310
                  clear A310
                  obtain rfl := Option.some.inj H
                  go_wp2_with (first | (go_at_call 21; (with_reducible refine (scalar_Count.calls 0 (wrap64 (a0 - 1)) t189 _ A29.out).mono ?_); rintro e w32 ⟨rfl, hb⟩; have n0_ := Aside0.mk (below_step (by repeat (first | (with_reducible first | exact HB.out | apply below_alloc | apply pw_below_drewN | apply below_drew1) | exact HB.out)) hb); clear HB; have HB := n0_; clear n0_; (try clear hb); (try clear hb2); (try clear hk); (try clear hi)) | (go_at_call 23; (with_reducible refine (caesuralaw01_wakes.calls  t190 _ A31.out).mono ?_); rintro e w33 ⟨rfl, hb⟩; have n0_ := Aside0.mk (below_step (by repeat (first | (with_reducible first | exact HB.out | apply below_alloc | apply pw_below_drewN | apply below_drew1) | exact HB.out)) hb); clear HB; have HB := n0_; clear n0_; (try clear hb); (try clear hb2); (try clear hk); (try clear hi)))
                  go_ret
                  exact ⟨by first | rfl | (simp [errW_none, errW_some] <;> rfl) | (simp [*, errW_none, errW_some] <;> rfl), by repeat (first | (with_reducible first | exact HB.out | apply below_alloc | apply pw_below_drewN | apply below_drew1) | exact HB.out)⟩
                · rw [if_neg c30] at H
                  exact absurd H (by simp)
              · rw [if_neg c28] at H
                exact absurd H (by simp)
    · replace c6 := Bool.eq_false_iff.mpr c6
      subst c6
      have H1 : (if t182 = 0 then ((caesuralaw01_wakes.f).bind fun t185 => (some t185)) else (none)) = some r := by rw [if_neg (show ¬ (false = true) by decide)] at H; exact H
      clear H
      have H := H1
      clear H1
      by_cases c34 : t182 = 0
      · rw [if_pos c34] at H
        have c34b0 : (t182 == 0) = true := beq_iff_eq.mpr c34
        have c34b1 : (t182 != 0) = false := bne_eq_false_iff_eq.mpr c34
        clear c34
        replace H := Option.bind_eq_some_iff.mp H
        obtain ⟨t185, A350, H⟩ := H
        replace H : (some t185) = some r := H
        have A35 := Aside0.mk A350
        clear A350
        obtain rfl := Option.some.inj H
        go_enter Try.func7, Try.ntmps7
        go_wp2_with (first | ((with_reducible refine gate_callee (f := 15) rfl ?_); refine goesL_ (some 15) rfl rfl Try.func15 (by kernel_rfl) rfl #[.int .i64 a0] rfl (by (try simp only [List.map_toArray, List.map_cons, List.map_nil]); first | done | rfl | (simp only [List.length_drop, List.length_take]; rfl)) ?_; (with_reducible refine (scalar_Index.calls a0 t182 false _ A3.out).mono ?_); rintro e w36 ⟨rfl, hb⟩; refine ⟨_, rfl, ?_⟩; have n0_ := Aside0.mk (below_step (by repeat (first | (with_reducible first | exact HB.out | apply below_alloc | apply pw_below_drewN | apply below_drew1) | exact HB.out)) hb); clear HB; have HB := n0_; clear n0_; (try clear hb); (try clear hb2); (try clear hk); (try clear hi)) | ((with_reducible refine gate_callee (f := 20) rfl ?_); refine goesL_ (some 20) rfl rfl Try.func20 (by kernel_rfl) rfl #[.int .i64 a0] rfl (by (try simp only [List.map_toArray, List.map_cons, List.map_nil]); first | done | rfl | (simp only [List.length_drop, List.length_take]; rfl)) ?_; (with_reducible refine (scalar_Is.calls a0 t184 _ A4.out).mono ?_); rintro e w' ⟨rfl, ⟨nd, rfl⟩⟩; refine ⟨_, rfl, ?_⟩) | (go_at_call 23; (with_reducible refine (caesuralaw01_wakes.calls  t185 _ A35.out).mono ?_); rintro e w37 ⟨rfl, hb⟩; have n0_ := Aside0.mk (below_step (by repeat (first | (with_reducible first | exact HB.out | apply below_alloc | apply pw_below_drewN | apply below_drew1) | exact HB.out)) hb); clear HB; have HB := n0_; clear n0_; (try clear hb); (try clear hb2); (try clear hk); (try clear hi)))
        go_ret
        exact ⟨by first | rfl | (simp [errW_none, errW_some] <;> rfl) | (simp [*, errW_none, errW_some] <;> rfl), by repeat (first | (with_reducible first | exact HB.out | apply below_alloc | apply pw_below_drewN | apply below_drew1) | exact HB.out)⟩
      · rw [if_neg c34] at H
        exact absurd H (by simp)

/-- THE ONE PURE STATEMENT of caesuralaw01_ScalarIndex. -/
def caesuralaw01_ScalarIndex.Pure : Prop := ∀ (x0 : Int) (x1 : Int), (Lit.int .i64 x0).wf = true → (Lit.int .u8 x1).wf = true → ∃ k, caesuralaw01_ScalarIndex.f k x0 x1 = some true

/-! ### pack_Get: function 25 -/
mutual
def pack_Get.j0 : Nat → List Int → Int → Int → Bool → Option (Int × Bool)
  | 0, _, _, _, _ => none
  | k + 1, x0, x1, x2, x28 => if x28 = true then (some (0, false)) else (if 0 ≤ x1 then (if x1 ≤ (wrap64 (x1 + x2)) then (if (wrap64 (x1 + x2)) ≤ (x0.length : Int) then ((some ((x0.take ((wrap64 (x1 + x2)) : Int).toNat).drop (x1 : Int).toNat : List Int)).bind fun y196 => (pack_Get.l0 k 0 y196 (y196.length : Int) 0)) else (none)) else (none)) else (none))
def pack_Get.l0 : Nat → Int → List Int → Int → Int → Option (Int × Bool)
  | 0, _, _, _, _ => none
  | k + 1, x8, x34, x35, x36 => if x36 < x35 then (if 0 ≤ x36 then (if x36 < (x34.length : Int) then (pack_Get.l0 k (Go.bits .or .i64 (wrap64 (x8 * 256)) (wrap64 (rd x34 x36))) x34 x35 (wrap64 (x36 + 1))) else (none)) else (none)) else (some (x8, true))
end
def pack_Get.f (k : Nat) (l0 : List Int) (a1 : Int) (a2 : Int) : Option (Int × Bool) := if a2 < 1 then (pack_Get.j0 k l0 a1 a2 true) else (if a2 > 4 then (pack_Get.j0 k l0 a1 a2 true) else (if a1 < 0 then (pack_Get.j0 k l0 a1 a2 true) else (pack_Get.j0 k l0 a1 a2 (decide (a1 > (wrap64 ((l0.length : Int) - a2)))))))
theorem pack_Get.mono_l : ∀ k, (∀ y0 y1 y2 y3, LeO (pack_Get.j0 k y0 y1 y2 y3) (pack_Get.j0 (k + 1) y0 y1 y2 y3)) ∧ (∀ y0 y1 y2 y3, LeO (pack_Get.l0 k y0 y1 y2 y3) (pack_Get.l0 (k + 1) y0 y1 y2 y3))
  | 0 => ⟨fun _ _ _ _ r h => by simp [pack_Get.j0] at h, fun _ _ _ _ r h => by simp [pack_Get.l0] at h⟩
  | k + 1 => by
    obtain ⟨ih0, ih1⟩ := pack_Get.mono_l k
    refine ⟨?_, ?_⟩
    · intro y0 y1 y2 y3
      unfold pack_Get.j0
      repeat' first
      | (with_reducible exact ih0 _ _ _ _)
      | (with_reducible exact ih1 _ _ _ _)
      | (with_reducible exact LeO.refl _)
      | (with_reducible exact LeO.none _)
      | (with_reducible refine LeO.ite ?_ ?_)
      | (with_reducible refine LeO.bind ?_ (fun _ => ?_))
      | exact ih0 _ _ _ _
      | exact ih1 _ _ _ _
      | exact LeO.none _
      | refine LeO.ite ?_ ?_
      | refine LeO.bind ?_ (fun _ => ?_)
    · intro y0 y1 y2 y3
      unfold pack_Get.l0
      repeat' first
      | (with_reducible exact ih0 _ _ _ _)
      | (with_reducible exact ih1 _ _ _ _)
      | (with_reducible exact LeO.refl _)
      | (with_reducible exact LeO.none _)
      | (with_reducible refine LeO.ite ?_ ?_)
      | (with_reducible refine LeO.bind ?_ (fun _ => ?_))
      | exact ih0 _ _ _ _
      | exact ih1 _ _ _ _
      | exact LeO.none _
      | refine LeO.ite ?_ ?_
      | refine LeO.bind ?_ (fun _ => ?_)
theorem pack_Get.mono : ∀ a0 a1 a2 k, LeO (pack_Get.f k a0 a1 a2) (pack_Get.f (k + 1) a0 a1 a2) := by
  intro a0 a1 a2 k
  obtain ⟨ih0, ih1⟩ := pack_Get.mono_l k
  unfold pack_Get.f
  repeat' first
      | (with_reducible exact ih0 _ _ _ _)
      | (with_reducible exact ih1 _ _ _ _)
      | (with_reducible exact LeO.refl _)
      | (with_reducible exact LeO.none _)
      | (with_reducible refine LeO.ite ?_ ?_)
      | (with_reducible refine LeO.bind ?_ (fun _ => ?_))
      | exact ih0 _ _ _ _
      | exact ih1 _ _ _ _
      | exact LeO.none _
      | refine LeO.ite ?_ ?_
      | refine LeO.bind ?_ (fun _ => ?_)
set_option maxHeartbeats 8000000 in
set_option maxRecDepth 100000 in
theorem pack_Get.calls (k : Nat) (A0 : Option Addr) (c0 : Nat) (l0 : List Int) (a1 : Int) (a2 : Int) (r1 : Int) (r2 : Bool) (w : World) (hr0 : Kd.C (Kd.int .u8) w A0 l0.length l0) (hc0 : l0.length ≤ c0) (h : pack_Get.f k l0 a1 a2 = some (r1, r2)) :
    Calls Try.prog 25 #[.slice A0 l0.length c0, .int .i64 a1, .int .i64 a2] w fun e w' => e = .returned (.tuple #[.int .i64 r1, .bool r2]) ∧ Drawn0 w w' := by
  have HR0 := Aside0.mk hr0
  have HC0 := Aside0.mk hc0
  clear hr0 hc0
  have H : (if a2 < 1 then (pack_Get.j0 k l0 a1 a2 true) else (if a2 > 4 then (pack_Get.j0 k l0 a1 a2 true) else (if a1 < 0 then (pack_Get.j0 k l0 a1 a2 true) else (pack_Get.j0 k l0 a1 a2 (decide (a1 > (wrap64 ((l0.length : Int) - a2)))))))) = some (r1, r2) := h
  clear h
  have HC4 := Aside0.mk H
  clear H
  go_enter Try.func25, Try.ntmps25
  go_upto_region 1 with (fail)
  go_cut [28] (fun v28 wc => ∃ (kq : Nat) (x28_3 : Bool), v28 = .bool x28_3 ∧ Aside0 (pack_Get.j0 kq l0 a1 a2 x28_3 = some (r1, r2)) ∧ Aside0 (kq ≤ k) ∧ Drawn0 w wc)
  case first =>
    have H := HC4.out
    clear HC4
    by_cases c5 : a2 < 1
    · rw [if_pos c5] at H
      have c5b0 : decide (a2 < 1) = true := decide_eq_true c5
      clear c5
      (first | rw [c5b0] | (simp only [i64_w, i32_w]; rw [c5b0]) | skip)
      have H' := Aside0.mk H
      clear H
      go_wp2
      go_meet
      case rel => exact ⟨_, (true), (by first | rfl | (simp; done) | (simp [*]; done)), H', ⟨by first | omega | exact Nat.le_refl _⟩, by repeat (first | exact Drawn0.refl _ | apply Drawn0.step)⟩
    · rw [if_neg c5] at H
      have c5b0 : decide (a2 < 1) = false := decide_eq_false c5
      clear c5
      (first | rw [c5b0] | (simp only [i64_w, i32_w]; rw [c5b0]) | skip)
      by_cases c6 : a2 > 4
      · rw [if_pos c6] at H
        have c6b0 : decide (4 < a2) = true := decide_eq_true c6
        clear c6
        have H' := Aside0.mk H
        clear H
        go_wp2
        go_meet
        case rel => exact ⟨_, (true), (by first | rfl | (simp; done) | (simp [*]; done)), H', ⟨by first | omega | exact Nat.le_refl _⟩, by repeat (first | exact Drawn0.refl _ | apply Drawn0.step)⟩
      · rw [if_neg c6] at H
        have c6b0 : decide (4 < a2) = false := decide_eq_false c6
        clear c6
        by_cases c7 : a1 < 0
        · rw [if_pos c7] at H
          have c7b0 : decide (a1 < 0) = true := decide_eq_true c7
          clear c7
          have H' := Aside0.mk H
          clear H
          go_wp2
          go_meet
          case rel => exact ⟨_, (true), (by first | rfl | (simp; done) | (simp [*]; done)), H', ⟨by first | omega | exact Nat.le_refl _⟩, by repeat (first | exact Drawn0.refl _ | apply Drawn0.step)⟩
        · rw [if_neg c7] at H
          have c7b0 : decide (a1 < 0) = false := decide_eq_false c7
          clear c7
          have H' := Aside0.mk H
          clear H
          go_wp2
          go_meet
          case rel => exact ⟨_, (decide (a1 > (wrap64 ((l0.length : Int) - a2)))), (by first | rfl | (simp; done) | (simp [*]; done)), H', ⟨by first | omega | exact Nat.le_refl _⟩, by repeat (first | exact Drawn0.refl _ | apply Drawn0.step)⟩
  case rest =>
    clear HC4
    try clear c2
    try clear p2
    try clear c5
    try clear c5b0
    try clear c6
    try clear c6b0
    try clear p6
    try clear c7
    try clear c7b0
    obtain ⟨kq, x28_3, rfl, HA, HJ3, ⟨mc3, rfl⟩⟩ := hcut
    cases kq with
    | zero => exact absurd HA.out (by simp [pack_Get.j0])
    | succ kj3 =>
      have H := HA.out
      clear HA
      simp only [pack_Get.j0] at H
      by_cases c8 : x28_3 = true
      · subst c8
        have H1 : (some (0, false)) = some (r1, r2) := by rw [if_pos rfl] at H; exact H
        clear H
        have H := H1
        clear H1
        simp only [Option.some.injEq, Prod.mk.injEq] at H
        obtain ⟨rfl, rfl⟩ := H
        go_wp2
        go_ret2
        exact ⟨by first | rfl | (simp; done) | (simp [*]; done), by repeat (first | exact Drawn0.refl _ | apply Drawn0.step)⟩
      · replace c8 := Bool.eq_false_iff.mpr c8
        subst c8
        have H1 : (if 0 ≤ a1 then (if a1 ≤ (wrap64 (a1 + a2)) then (if (wrap64 (a1 + a2)) ≤ (l0.length : Int) then ((some ((l0.take ((wrap64 (a1 + a2)) : Int).toNat).drop (a1 : Int).toNat : List Int)).bind fun y196 => (pack_Get.l0 kj3 0 y196 (y196.length : Int) 0)) else (none)) else (none)) else (none)) = some (r1, r2) := by rw [if_neg (show ¬ (false = true) by decide)] at H; exact H
        clear H
        have H := H1
        clear H1
        by_cases c9 : 0 ≤ a1
        · rw [if_pos c9] at H
          have c9b0 := eq_true c9
          have c9b1 : decide (0 ≤ a1) = true := decide_eq_true c9
          clear c9
          by_cases c10 : a1 ≤ (wrap64 (a1 + a2))
          · rw [if_pos c10] at H
            have c10b0 := eq_true c10
            have c10b1 : decide (a1 ≤ (wrap64 (a1 + a2))) = true := decide_eq_true c10
            by_cases c11 : (wrap64 (a1 + a2)) ≤ (l0.length : Int)
            · rw [if_pos c11] at H
              have c11b0 := eq_true c11
              have c11b1 : decide ((wrap64 (a1 + a2)) ≤ (l0.length : Int)) = true := decide_eq_true c11
              obtain ⟨y196, hy196⟩ : ∃ y_ : List Int, y_ = ((l0.take ((wrap64 (a1 + a2)) : Int).toNat).drop (a1 : Int).toNat) := ⟨_, rfl⟩
              replace H : (pack_Get.l0 kj3 0 y196 (y196.length : Int) 0) = some (r1, r2) := by first | (rw [hy196]; with_reducible exact H) | (have H2_ := (Option.bind_some _ _).symm.trans H; rw [hy196]; with_reducible exact H2_) | (have H2_ := (Option.bind_some _ _).symm.trans H; with_reducible exact H2_) | with_reducible exact H | (rw [hy196]; exact H) | exact H
              have Ny196 := Aside0.mk hy196
              clear hy196
              have H' := Aside0.mk H
              clear H
              have q12 : ((wrap64 (a1 + a2)) : Int) ≤ ((l0.length : Int) : Int) := of_decide_eq_true (by first | (with_reducible assumption) | assumption)
              obtain ⟨i012, hi012, _, hsz12, _⟩ := info_parts info5
              have hroom12 : l0.length ≤ c0 := HC0.out
              have hC12 : Kd.C (Kd.int .u8) _ A0 l0.length l0 := HR0.out
              have ql12 : (a1 : Int) ≤ ((wrap64 (a1 + a2)) : Int) := of_decide_eq_true (by first | (with_reducible assumption) | assumption)
              have q012 : (0 : Int) ≤ (a1 : Int) := of_decide_eq_true (by first | (with_reducible assumption) | assumption)
              have hcut12 := cut_mid (P := Try.prog) 34 5 .i64 .i64 Try.underlying34 hi012 1 hsz12 A0 l0.length c0 a1 (wrap64 (a1 + a2)) q012 ql12 q12 hroom12
              have hr12 := Kd.C_mid (lo := (a1 : Int).toNat) (hi := ((wrap64 (a1 + a2)) : Int).toNat) (c := c0) hC12 (by omega) (by omega) hroom12
              obtain ⟨A12, hA12⟩ : ∃ A1, A1 = (if c0 = (a1 : Int).toNat then A0 else (A0 : Option Addr).map (·.add ((a1 : Int).toNat * 1))) := ⟨_, rfl⟩
              obtain ⟨c12, hc12⟩ : ∃ c1, c1 = c0 - (a1 : Int).toNat := ⟨_, rfl⟩
              have hy12 : y196.length = ((wrap64 (a1 + a2)) : Int).toNat - (a1 : Int).toNat := (by rw [Ny196.out, List.length_drop, List.length_take] <;> omega)
              rw [show ((l0).take ((wrap64 (a1 + a2)) : Int).toNat).drop (a1 : Int).toNat = y196 from Ny196.out.symm] at hr12
              replace hr12 : Kd.C (Kd.int .u8) _ A12 y196.length y196 := (by rw [hA12]; exact hr12)
              rw [← hy12, ← hA12, ← hc12] at hcut12
              have HR199 := Aside0.mk hr12
              have HC199 := Aside0.mk (show y196.length ≤ c12 from by rw [hy12, hc12]; exact Nat.sub_le_sub_right (Nat.le_trans (by omega) hroom12) _)
              clear hr12 hC12 hroom12 hi012 hsz12 hc12
              have KY12 := Aside0.mk hy12
              have KA12 := Aside0.mk hA12
              clear hy12 hA12
              replace q12 := eq_true q12
              go_wp2
              go_loopg [8, 36] kj3 (fun kq v8 v36 w' => ∃ (x8_2 : Int) (x36_2 : Int), v8 = .int .i64 x8_2 ∧ v36 = .int .i64 x36_2 ∧ Aside0 (pack_Get.l0 kq x8_2 y196 (y196.length : Int) x36_2 = some (r1, r2)) ∧ Aside0 (kq ≤ kj3) ∧ Drawn0 w w')
              case atStart => exact ⟨(0), (0), (by first | rfl | (simp; done) | (simp [*]; done)), (by first | rfl | (simp; done) | (simp [*]; done)), H', ⟨Nat.le_refl _⟩, by repeat (first | exact Drawn0.refl _ | apply Drawn0.step)⟩
              case round =>
                clear H'
                try clear c1
                try clear q1
                try clear c2
                try clear p2
                try clear c3
                try clear c5
                try clear c5b0
                try clear c6
                try clear c6b0
                try clear p6
                try clear c7
                try clear c7b0
                try clear c8
                try clear c9
                try clear c9b0
                try clear c9b1
                try clear c10
                try clear c10b0
                try clear c10b1
                try clear c11
                try clear c11b0
                try clear c11b1
                try clear c12
                try clear q12
                try clear p2
                try clear p6
                try clear q012
                try clear q12
                obtain ⟨x8_2, x36_2, rfl, rfl, HA, HK2, ⟨m2, rfl⟩⟩ := hrel
                cases gk with
                | zero => exact absurd HA.out (by simp [pack_Get.l0])
                | succ k2 =>
                  have H := HA.out
                  clear HA
                  simp only [pack_Get.l0] at H
                  by_cases c13 : x36_2 < (y196.length : Int)
                  · rw [if_pos c13] at H
                    have c13b0 : decide (x36_2 < (y196.length : Int)) = true := decide_eq_true c13
                    clear c13
                    by_cases c14 : 0 ≤ x36_2
                    · rw [if_pos c14] at H
                      have c14b0 : decide (0 ≤ x36_2) = true := decide_eq_true c14
                      clear c14
                      by_cases c15 : x36_2 < (y196.length : Int)
                      · rw [if_pos c15] at H
                        have c15b0 : decide (x36_2 < (y196.length : Int)) = true := decide_eq_true c15
                        clear c15
                        have H' := Aside0.mk H
                        clear H
                        have p200 : 0 ≤ (x36_2 : Int) := of_decide_eq_true (by first | (with_reducible assumption) | assumption)
                        have q200 : x36_2 < (y196.length : Int) := of_decide_eq_true (by first | (with_reducible assumption) | assumption)
                        obtain ⟨ad200, e200, hx200_0⟩ := Kd.at_int HR199.out x36_2 p200 q200
                        cases e200
                        replace p200 := eq_true p200
                        replace q200 := eq_true q200
                        go_wp2
                        go_roundg k2
                        case measure => have := HJ3.out; have := HK2.out; omega
                        case rel => exact ⟨(Go.bits .or .i64 (wrap64 (x8_2 * 256)) (wrap64 (rd y196 x36_2))), (wrap64 (x36_2 + 1)), (by first | rfl | (simp; done) | (simp [*]; done)), (by first | rfl | (simp; done) | (simp [*]; done)), H', ⟨by have := HJ3.out; have := HK2.out; omega⟩, by repeat (first | exact Drawn0.refl _ | apply Drawn0.step)⟩
                      · rw [if_neg c15] at H
                        exact absurd H (by simp)
                    · rw [if_neg c14] at H
                      exact absurd H (by simp)
                  · rw [if_neg c13] at H
                    have c13b0 : decide (x36_2 < (y196.length : Int)) = false := decide_eq_false c13
                    clear c13
                    simp only [Option.some.injEq, Prod.mk.injEq] at H
                    obtain ⟨rfl, rfl⟩ := H
                    go_wp2
                    go_ret2
                    exact ⟨by first | rfl | (simp; done) | (simp [*]; done), by repeat (first | exact Drawn0.refl _ | apply Drawn0.step)⟩
            · rw [if_neg c11] at H
              exact absurd H (by simp)
          · rw [if_neg c10] at H
            exact absurd H (by simp)
        · rw [if_neg c9] at H
          exact absurd H (by simp)

/-! ### pack_length: function 39 -/
def pack_length.f (a0 : Int) : Option (Int) := some (wrap64 (Int.tdiv (wrap64 ((wrap64 (a0 + 8)) - 1)) 8))
set_option maxHeartbeats 8000000 in
set_option maxRecDepth 100000 in
theorem pack_length.calls (a0 : Int) (r : Int) (w : World) (h : pack_length.f a0 = some r) :
    Calls Try.prog 39 #[.int .i64 a0] w fun e w' => e = .returned (.int .i64 r) ∧ Drawn0 w w' := by
  have H : (some (wrap64 (Int.tdiv (wrap64 ((wrap64 (a0 + 8)) - 1)) 8))) = some r := h
  clear h
  obtain rfl := Option.some.inj H
  go_enter Try.func39, Try.ntmps39
  go_wp2
  go_ret
  exact ⟨by first | rfl | (simp; done) | (simp [*]; done), by repeat (first | exact Drawn0.refl _ | apply Drawn0.step)⟩

end Go.Proofs.Ytoilaibpmepecaa.X
