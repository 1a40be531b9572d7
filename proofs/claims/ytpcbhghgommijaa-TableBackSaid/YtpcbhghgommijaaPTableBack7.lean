/- Texts of this claim, put together: what no text names is left out (wip/x/prune.py). -/
import Derived.Test.YtpcbhghgommijaaPTableBack6
section
namespace Go.Proofs.Ytpcbhghgommijaa.X
open Go.RowKit Go.Proofs.YtpcbhghgommijaaW.PrintWords Go.Proofs.YtpcbhghgommijaaW.PrintLast Go.Proofs.YtpcbhghgommijaaW.PrintMore
attribute [local go_sem] max2_int min2_int max_two min_two max_three min_three max_four min_four
set_option linter.unusedVariables false
set_option linter.unusedSimpArgs false
open Go.Proofs.Ytpcbhghgommijaa.XMac
def table_Length.f (a0 : Int) (a1 : Int) (a2 : Int) : Option (Int) := (table_between.f a0 0 255).bind fun t169 => (if t169 = true then ((table_between.f a1 0 255).bind fun t170 => (if t170 = true then ((table_between.f a2 0 255).bind fun t171 => (if t171 = true then (some (wrap64 ((wrap64 ((wrap64 ((wrap64 (7 + (wrap64 (4 * a2)))) + (wrap64 (a0 * a1)))) + (wrap64 (Int.tdiv (wrap64 (a1 + 7)) 8)))) + 4))) else (some 0))) else (some 0))) else (some 0))
set_option maxHeartbeats 8000000 in
set_option maxRecDepth 100000 in
theorem table_Length.calls (a0 : Int) (a1 : Int) (a2 : Int) (r : Int) (w : World) (h : table_Length.f a0 a1 a2 = some r) :
  Calls Try.prog 19 #[.int .i64 a0, .int .i64 a1, .int .i64 a2] w fun e w' => e = .returned (.int .i64 r) ∧ Drawn0 w w' := by
 have H : ((table_between.f a0 0 255).bind fun t169 => (if t169 = true then ((table_between.f a1 0 255).bind fun t170 => (if t170 = true then ((table_between.f a2 0 255).bind fun t171 => (if t171 = true then (some (wrap64 ((wrap64 ((wrap64 ((wrap64 (7 + (wrap64 (4 * a2)))) + (wrap64 (a0 * a1)))) + (wrap64 (Int.tdiv (wrap64 (a1 + 7)) 8)))) + 4))) else (some 0))) else (some 0))) else (some 0))) = some r := h
 clear h
 replace H := Option.bind_eq_some_iff.mp H
 obtain ⟨t169, A40, H⟩ := H
 replace H : (if t169 = true then ((table_between.f a1 0 255).bind fun t170 => (if t170 = true then ((table_between.f a2 0 255).bind fun t171 => (if t171 = true then (some (wrap64 ((wrap64 ((wrap64 ((wrap64 (7 + (wrap64 (4 * a2)))) + (wrap64 (a0 * a1)))) + (wrap64 (Int.tdiv (wrap64 (a1 + 7)) 8)))) + 4))) else (some 0))) else (some 0))) else (some 0)) = some r := H
 have A4 := Aside0.mk A40
 clear A40
 by_cases c5 : t169 = true
 ·subst c5
  have H1 : ((table_between.f a1 0 255).bind fun t170 => (if t170 = true then ((table_between.f a2 0 255).bind fun t171 => (if t171 = true then (some (wrap64 ((wrap64 ((wrap64 ((wrap64 (7 + (wrap64 (4 * a2)))) + (wrap64 (a0 * a1)))) + (wrap64 (Int.tdiv (wrap64 (a1 + 7)) 8)))) + 4))) else (some 0))) else (some 0))) = some r := by rw [if_pos rfl] at H; exact H
  clear H
  have H := H1
  clear H1
  replace H := Option.bind_eq_some_iff.mp H
  obtain ⟨t170, A60, H⟩ := H
  replace H : (if t170 = true then ((table_between.f a2 0 255).bind fun t171 => (if t171 = true then (some (wrap64 ((wrap64 ((wrap64 ((wrap64 (7 + (wrap64 (4 * a2)))) + (wrap64 (a0 * a1)))) + (wrap64 (Int.tdiv (wrap64 (a1 + 7)) 8)))) + 4))) else (some 0))) else (some 0)) = some r := H
  have A6 := Aside0.mk A60
  clear A60
  by_cases c7 : t170 = true
  ·subst c7
   have H1 : ((table_between.f a2 0 255).bind fun t171 => (if t171 = true then (some (wrap64 ((wrap64 ((wrap64 ((wrap64 (7 + (wrap64 (4 * a2)))) + (wrap64 (a0 * a1)))) + (wrap64 (Int.tdiv (wrap64 (a1 + 7)) 8)))) + 4))) else (some 0))) = some r := by rw [if_pos rfl] at H; exact H
   clear H
   have H := H1
   clear H1
   replace H := Option.bind_eq_some_iff.mp H
   obtain ⟨t171, A80, H⟩ := H
   replace H : (if t171 = true then (some (wrap64 ((wrap64 ((wrap64 ((wrap64 (7 + (wrap64 (4 * a2)))) + (wrap64 (a0 * a1)))) + (wrap64 (Int.tdiv (wrap64 (a1 + 7)) 8)))) + 4))) else (some 0)) = some r := H
   have A8 := Aside0.mk A80
   clear A80
   by_cases c9 : t171 = true
   ·subst c9
    have H1 : (some (wrap64 ((wrap64 ((wrap64 ((wrap64 (7 + (wrap64 (4 * a2)))) + (wrap64 (a0 * a1)))) + (wrap64 (Int.tdiv (wrap64 (a1 + 7)) 8)))) + 4))) = some r := by rw [if_pos rfl] at H; exact H
    clear H
    have H := H1
    clear H1
    obtain rfl := Option.some.inj H
    go_enter Try.func19, Try.ntmps19
    go_wp2_with (first | ((with_reducible refine gate_callee (f := 33) rfl ?_); refine goesL_ (some 8) rfl rfl Try.func33 (by kernel_rfl) rfl #[.int .i64 a0, .int .i64 0, .int .i64 255] rfl (by xlm_) ?_; (with_reducible refine (table_between.calls a0 0 255 true _ A4.out).mono ?_); rintro e w' ⟨rfl, ⟨nd, rfl⟩⟩; refine ⟨_, rfl, ?_⟩) | (go_at_call 33; (with_reducible refine (table_between.calls a1 0 255 true _ A6.out).mono ?_); rintro e w' ⟨rfl, ⟨nd, rfl⟩⟩) | (go_at_call 33; (with_reducible refine (table_between.calls a2 0 255 true _ A8.out).mono ?_); rintro e w' ⟨rfl, ⟨nd, rfl⟩⟩))
    go_ret
    exact ⟨by first | rfl | (simp; done) | (simp [*]; done), by repeat (first | exact Drawn0.refl _ | apply Drawn0.step)⟩
   ·replace c9 := Bool.eq_false_iff.mpr c9
    subst c9
    have H1 : (some 0) = some r := by rw [if_neg (show ¬ (false = true) by decide)] at H; exact H
    clear H
    have H := H1
    clear H1
    obtain rfl := Option.some.inj H
    go_enter Try.func19, Try.ntmps19
    go_wp2_with (first | ((with_reducible refine gate_callee (f := 33) rfl ?_); refine goesL_ (some 8) rfl rfl Try.func33 (by kernel_rfl) rfl #[.int .i64 a0, .int .i64 0, .int .i64 255] rfl (by xlm_) ?_; (with_reducible refine (table_between.calls a0 0 255 true _ A4.out).mono ?_); rintro e w' ⟨rfl, ⟨nd, rfl⟩⟩; refine ⟨_, rfl, ?_⟩) | (go_at_call 33; (with_reducible refine (table_between.calls a1 0 255 true _ A6.out).mono ?_); rintro e w' ⟨rfl, ⟨nd, rfl⟩⟩) | (go_at_call 33; (with_reducible refine (table_between.calls a2 0 255 false _ A8.out).mono ?_); rintro e w' ⟨rfl, ⟨nd, rfl⟩⟩))
    go_ret
    exact ⟨by first | rfl | (simp; done) | (simp [*]; done), by repeat (first | exact Drawn0.refl _ | apply Drawn0.step)⟩
  ·replace c7 := Bool.eq_false_iff.mpr c7
   subst c7
   have H1 : (some 0) = some r := by rw [if_neg (show ¬ (false = true) by decide)] at H; exact H
   clear H
   have H := H1
   clear H1
   obtain rfl := Option.some.inj H
   go_enter Try.func19, Try.ntmps19
   go_wp2_with (first | ((with_reducible refine gate_callee (f := 33) rfl ?_); refine goesL_ (some 8) rfl rfl Try.func33 (by kernel_rfl) rfl #[.int .i64 a0, .int .i64 0, .int .i64 255] rfl (by xlm_) ?_; (with_reducible refine (table_between.calls a0 0 255 true _ A4.out).mono ?_); rintro e w' ⟨rfl, ⟨nd, rfl⟩⟩; refine ⟨_, rfl, ?_⟩) | (go_at_call 33; (with_reducible refine (table_between.calls a1 0 255 false _ A6.out).mono ?_); rintro e w' ⟨rfl, ⟨nd, rfl⟩⟩))
   go_ret
   exact ⟨by first | rfl | (simp; done) | (simp [*]; done), by repeat (first | exact Drawn0.refl _ | apply Drawn0.step)⟩
 ·replace c5 := Bool.eq_false_iff.mpr c5
  subst c5
  have H1 : (some 0) = some r := by rw [if_neg (show ¬ (false = true) by decide)] at H; exact H
  clear H
  have H := H1
  clear H1
  obtain rfl := Option.some.inj H
  go_enter Try.func19, Try.ntmps19
  go_wp2_with (first | ((with_reducible refine gate_callee (f := 33) rfl ?_); refine goesL_ (some 8) rfl rfl Try.func33 (by kernel_rfl) rfl #[.int .i64 a0, .int .i64 0, .int .i64 255] rfl (by xlm_) ?_; (with_reducible refine (table_between.calls a0 0 255 false _ A4.out).mono ?_); rintro e w' ⟨rfl, ⟨nd, rfl⟩⟩; refine ⟨_, rfl, ?_⟩))
  go_ret
  exact ⟨by first | rfl | (simp; done) | (simp [*]; done), by repeat (first | exact Drawn0.refl _ | apply Drawn0.step)⟩
mutual
def pack_Get.j0 : Nat → List Int → Int → Int → Bool → Option (Int × Bool)
 | 0, _, _, _, _ => none
 | k + 1, x0, x1, x2, x28 => if x28 = true then (some (0, false)) else (if 0 ≤ x1 then (if x1 ≤ (wrap64 (x1 + x2)) then (if (wrap64 (x1 + x2)) ≤ (x0.length : Int) then ((some ((x0.take ((wrap64 (x1 + x2)) : Int).toNat).drop (x1 : Int).toNat : List Int)).bind fun y172 => (pack_Get.l0 k 0 y172 (y172.length : Int) 0)) else (none)) else (none)) else (none))
def pack_Get.l0 : Nat → Int → List Int → Int → Int → Option (Int × Bool)
 | 0, _, _, _, _ => none
 | k + 1, x8, x34, x35, x36 => if x36 < x35 then (if 0 ≤ x36 then (if x36 < (x34.length : Int) then (pack_Get.l0 k (Go.bits .or .i64 (wrap64 (x8 * 256)) (wrap64 (rd x34 x36))) x34 x35 (wrap64 (x36 + 1))) else (none)) else (none)) else (some (x8, true))
end
def pack_Get.f (k : Nat) (l0 : List Int) (a1 : Int) (a2 : Int) : Option (Int × Bool) := if a2 < 1 then (pack_Get.j0 k l0 a1 a2 true) else (if a2 > 4 then (pack_Get.j0 k l0 a1 a2 true) else (if a1 < 0 then (pack_Get.j0 k l0 a1 a2 true) else (pack_Get.j0 k l0 a1 a2 (decide (a1 > (wrap64 ((l0.length : Int) - a2)))))))
theorem pack_Get.mono_l : ∀ k, (∀ y0 y1 y2 y3, LeO (pack_Get.j0 k y0 y1 y2 y3) (pack_Get.j0 (k + 1) y0 y1 y2 y3)) ∧ (∀ y0 y1 y2 y3, LeO (pack_Get.l0 k y0 y1 y2 y3) (pack_Get.l0 (k + 1) y0 y1 y2 y3))
 | 0 => ⟨fun _ _ _ _ r h => by simp [pack_Get.j0] at h, fun _ _ _ _ r h => by simp [pack_Get.l0] at h⟩
 | k + 1 => by
  obtain ⟨ih0, ih1⟩ := pack_Get.mono_l k
  refine ⟨?_, ?_⟩
  ·intro y0 y1 y2 y3
   unfold pack_Get.j0
   repeat' first
   | (with_reducible exact ih0 _ _ _ _)
   | (with_reducible exact ih1 _ _ _ _)
   | (with_reducible exact LeO.refl _)
   | (with_reducible exact LeO.none _)
   | (with_reducible refine LeO.ite ?_ ?_)
   | (with_reducible refine LeO.bind ?_ (fun _ => ?_))
   | exact ih0 _ _ _ _
   | exact ih1 _ _ _ _
   | exact LeO.none _
   | refine LeO.ite ?_ ?_
   | refine LeO.bind ?_ (fun _ => ?_)
  ·intro y0 y1 y2 y3
   unfold pack_Get.l0
   repeat' first
   | (with_reducible exact ih0 _ _ _ _)
   | (with_reducible exact ih1 _ _ _ _)
   | (with_reducible exact LeO.refl _)
   | (with_reducible exact LeO.none _)
   | (with_reducible refine LeO.ite ?_ ?_)
   | (with_reducible refine LeO.bind ?_ (fun _ => ?_))
   | exact ih0 _ _ _ _
   | exact ih1 _ _ _ _
   | exact LeO.none _
   | refine LeO.ite ?_ ?_
   | refine LeO.bind ?_ (fun _ => ?_)
theorem pack_Get.mono : ∀ a0 a1 a2 k, LeO (pack_Get.f k a0 a1 a2) (pack_Get.f (k + 1) a0 a1 a2) := by
 intro a0 a1 a2 k
 obtain ⟨ih0, ih1⟩ := pack_Get.mono_l k
 unfold pack_Get.f
 repeat' first
   | (with_reducible exact ih0 _ _ _ _)
   | (with_reducible exact ih1 _ _ _ _)
   | (with_reducible exact LeO.refl _)
   | (with_reducible exact LeO.none _)
   | (with_reducible refine LeO.ite ?_ ?_)
   | (with_reducible refine LeO.bind ?_ (fun _ => ?_))
   | exact ih0 _ _ _ _
   | exact ih1 _ _ _ _
   | exact LeO.none _
   | refine LeO.ite ?_ ?_
   | refine LeO.bind ?_ (fun _ => ?_)
set_option maxHeartbeats 8000000 in
set_option maxRecDepth 100000 in
theorem pack_Get.calls (k : Nat) (A0 : Option Addr) (c0 : Nat) (l0 : List Int) (a1 : Int) (a2 : Int) (r1 : Int) (r2 : Bool) (w : World) (hr0 : Kd.C (Kd.int .u8) w A0 l0.length l0) (hc0 : l0.length ≤ c0) (h : pack_Get.f k l0 a1 a2 = some (r1, r2)) :
  Calls Try.prog 34 #[.slice A0 l0.length c0, .int .i64 a1, .int .i64 a2] w fun e w' => e = .returned (.tuple #[.int .i64 r1, .bool r2]) ∧ Drawn0 w w' := by
 have HR0 := Aside0.mk hr0
 have HC0 := Aside0.mk hc0
 clear hr0 hc0
 have H : (if a2 < 1 then (pack_Get.j0 k l0 a1 a2 true) else (if a2 > 4 then (pack_Get.j0 k l0 a1 a2 true) else (if a1 < 0 then (pack_Get.j0 k l0 a1 a2 true) else (pack_Get.j0 k l0 a1 a2 (decide (a1 > (wrap64 ((l0.length : Int) - a2)))))))) = some (r1, r2) := h
 clear h
 have HC4 := Aside0.mk H
 clear H
 go_enter Try.func34, Try.ntmps34
 go_upto_region 1 with (fail)
 go_cut [28] (fun v28 wc => ∃ (kq : Nat) (x28_3 : Bool), v28 = .bool x28_3 ∧ Aside0 (pack_Get.j0 kq l0 a1 a2 x28_3 = some (r1, r2)) ∧ Aside0 (kq ≤ k) ∧ Drawn0 w wc)
 case first =>
  have H := HC4.out
  clear HC4
  by_cases c5 : a2 < 1
  ·rw [if_pos c5] at H
   have c5b0 : decide (a2 < 1) = true := decide_eq_true c5
   clear c5
   (first | rw [c5b0] | (simp only [i64_w, i32_w]; rw [c5b0]) | skip)
   have H' := Aside0.mk H
   clear H
   go_wp2
   go_meet
   case rel => exact ⟨_, (true), (by xrs_), H', ⟨by first | omega | exact Nat.le_refl _⟩, by repeat (first | exact Drawn0.refl _ | apply Drawn0.step)⟩
  ·rw [if_neg c5] at H
   have c5b0 : decide (a2 < 1) = false := decide_eq_false c5
   clear c5
   (first | rw [c5b0] | (simp only [i64_w, i32_w]; rw [c5b0]) | skip)
   by_cases c6 : a2 > 4
   ·rw [if_pos c6] at H
    have c6b0 : decide (4 < a2) = true := decide_eq_true c6
    clear c6
    have H' := Aside0.mk H
    clear H
    go_wp2
    go_meet
    case rel => exact ⟨_, (true), (by xrs_), H', ⟨by first | omega | exact Nat.le_refl _⟩, by repeat (first | exact Drawn0.refl _ | apply Drawn0.step)⟩
   ·rw [if_neg c6] at H
    have c6b0 : decide (4 < a2) = false := decide_eq_false c6
    clear c6
    by_cases c7 : a1 < 0
    ·rw [if_pos c7] at H
     have c7b0 : decide (a1 < 0) = true := decide_eq_true c7
     clear c7
     have H' := Aside0.mk H
     clear H
     go_wp2
     go_meet
     case rel => exact ⟨_, (true), (by xrs_), H', ⟨by first | omega | exact Nat.le_refl _⟩, by repeat (first | exact Drawn0.refl _ | apply Drawn0.step)⟩
    ·rw [if_neg c7] at H
     have c7b0 : decide (a1 < 0) = false := decide_eq_false c7
     clear c7
     have H' := Aside0.mk H
     clear H
     go_wp2
     go_meet
     case rel => exact ⟨_, (decide (a1 > (wrap64 ((l0.length : Int) - a2)))), (by xrs_), H', ⟨by first | omega | exact Nat.le_refl _⟩, by repeat (first | exact Drawn0.refl _ | apply Drawn0.step)⟩
 case rest =>
  clear HC4
  xcl_ p2 c3 c5 c5b0 c6 c6b0 p6 c7 c7b0
  obtain ⟨kq, x28_3, rfl, HA, HJ3, ⟨mc3, rfl⟩⟩ := hcut
  cases kq with
  | zero => exact absurd HA.out (by simp [pack_Get.j0])
  | succ kj3 =>
   have H := HA.out
   clear HA
   simp only [pack_Get.j0] at H
   by_cases c8 : x28_3 = true
   ·subst c8
    have H1 : (some (0, false)) = some (r1, r2) := by rw [if_pos rfl] at H; exact H
    clear H
    have H := H1
    clear H1
    simp only [Option.some.injEq, Prod.mk.injEq] at H
    obtain ⟨rfl, rfl⟩ := H
    go_wp2
    go_ret2
    exact ⟨by first | rfl | (simp; done) | (simp [*]; done), by repeat (first | exact Drawn0.refl _ | apply Drawn0.step)⟩
   ·replace c8 := Bool.eq_false_iff.mpr c8
    subst c8
    have H1 : (if 0 ≤ a1 then (if a1 ≤ (wrap64 (a1 + a2)) then (if (wrap64 (a1 + a2)) ≤ (l0.length : Int) then ((some ((l0.take ((wrap64 (a1 + a2)) : Int).toNat).drop (a1 : Int).toNat : List Int)).bind fun y172 => (pack_Get.l0 kj3 0 y172 (y172.length : Int) 0)) else (none)) else (none)) else (none)) = some (r1, r2) := by rw [if_neg (show ¬ (false = true) by decide)] at H; exact H
    clear H
    have H := H1
    clear H1
    by_cases c9 : 0 ≤ a1
    ·rw [if_pos c9] at H
     have c9b0 := eq_true c9
     have c9b1 : decide (0 ≤ a1) = true := decide_eq_true c9
     clear c9
     by_cases c10 : a1 ≤ (wrap64 (a1 + a2))
     ·rw [if_pos c10] at H
      have c10b0 := eq_true c10
      have c10b1 : decide (a1 ≤ (wrap64 (a1 + a2))) = true := decide_eq_true c10
      by_cases c11 : (wrap64 (a1 + a2)) ≤ (l0.length : Int)
      ·rw [if_pos c11] at H
       have c11b0 := eq_true c11
       have c11b1 : decide ((wrap64 (a1 + a2)) ≤ (l0.length : Int)) = true := decide_eq_true c11
       obtain ⟨y172, hy172⟩ : ∃ y_ : List Int, y_ = ((l0.take ((wrap64 (a1 + a2)) : Int).toNat).drop (a1 : Int).toNat) := ⟨_, rfl⟩
       replace H : (pack_Get.l0 kj3 0 y172 (y172.length : Int) 0) = some (r1, r2) := by first | (rw [hy172]; with_reducible exact H) | (have H2_ := (Option.bind_some _ _).symm.trans H; rw [hy172]; with_reducible exact H2_) | (have H2_ := (Option.bind_some _ _).symm.trans H; with_reducible exact H2_) | with_reducible exact H | (rw [hy172]; exact H) | exact H
       have Ny172 := Aside0.mk hy172
       clear hy172
       have H' := Aside0.mk H
       clear H
       have q12 : ((wrap64 (a1 + a2)) : Int) ≤ ((l0.length : Int) : Int) := of_decide_eq_true (by xas_)
       obtain ⟨i012, hi012, _, hsz12, _⟩ := info_parts info5
       have hroom12 : l0.length ≤ c0 := HC0.out
       have hC12 : Kd.C (Kd.int .u8) _ A0 l0.length l0 := HR0.out
       have ql12 : (a1 : Int) ≤ ((wrap64 (a1 + a2)) : Int) := of_decide_eq_true (by xas_)
       have q012 : (0 : Int) ≤ (a1 : Int) := of_decide_eq_true (by xas_)
       have hcut12 := cut_mid (P := Try.prog) 27 5 .i64 .i64 Try.underlying27 hi012 1 hsz12 A0 l0.length c0 a1 (wrap64 (a1 + a2)) q012 ql12 q12 hroom12
       have hr12 := Kd.C_mid (lo := (a1 : Int).toNat) (hi := ((wrap64 (a1 + a2)) : Int).toNat) (c := c0) hC12 (by omega) (by omega) hroom12
       obtain ⟨A12, hA12⟩ : ∃ A1, A1 = (if c0 = (a1 : Int).toNat then A0 else (A0 : Option Addr).map (·.add ((a1 : Int).toNat * 1))) := ⟨_, rfl⟩
       obtain ⟨c12, hc12⟩ : ∃ c1, c1 = c0 - (a1 : Int).toNat := ⟨_, rfl⟩
       have hy12 : y172.length = ((wrap64 (a1 + a2)) : Int).toNat - (a1 : Int).toNat := (by rw [Ny172.out, List.length_drop, List.length_take] <;> omega)
       rw [show ((l0).take ((wrap64 (a1 + a2)) : Int).toNat).drop (a1 : Int).toNat = y172 from Ny172.out.symm] at hr12
       replace hr12 : Kd.C (Kd.int .u8) _ A12 y172.length y172 := (by rw [hA12]; exact hr12)
       rw [← hy12, ← hA12, ← hc12] at hcut12
       have HR175 := Aside0.mk hr12
       have HC175 := Aside0.mk (show y172.length ≤ c12 from by rw [hy12, hc12]; exact Nat.sub_le_sub_right (Nat.le_trans (by omega) hroom12) _)
       clear hr12 hC12 hroom12 hi012 hsz12 hc12
       have KY12 := Aside0.mk hy12
       have KA12 := Aside0.mk hA12
       clear hy12 hA12
       replace q12 := eq_true q12
       go_wp2
       go_loopg [8, 36] kj3 (fun kq v8 v36 w' => ∃ (x8_2 : Int) (x36_2 : Int), v8 = .int .i64 x8_2 ∧ v36 = .int .i64 x36_2 ∧ Aside0 (pack_Get.l0 kq x8_2 y172 (y172.length : Int) x36_2 = some (r1, r2)) ∧ Aside0 (kq ≤ kj3) ∧ Drawn0 w w')
       case atStart => exact ⟨(0), (0), (by xrs_), (by xrs_), H', ⟨Nat.le_refl _⟩, by repeat (first | exact Drawn0.refl _ | apply Drawn0.step)⟩
       case round =>
        clear H'
        xcl_ c1 q1 p2 c3 c5 c5b0 c6 c6b0 p6 c7 c7b0 c8 c9 c9b0 c9b1 c10 c10b0 c10b1 c11 c11b0 c11b1 c12 q12 p2 p6 q012 q12
        obtain ⟨x8_2, x36_2, rfl, rfl, HA, HK2, ⟨m2, rfl⟩⟩ := hrel
        cases gk with
        | zero => exact absurd HA.out (by simp [pack_Get.l0])
        | succ k2 =>
         have H := HA.out
         clear HA
         simp only [pack_Get.l0] at H
         by_cases c13 : x36_2 < (y172.length : Int)
         ·rw [if_pos c13] at H
          have c13b0 : decide (x36_2 < (y172.length : Int)) = true := decide_eq_true c13
          clear c13
          by_cases c14 : 0 ≤ x36_2
          ·rw [if_pos c14] at H
           have c14b0 : decide (0 ≤ x36_2) = true := decide_eq_true c14
           clear c14
           by_cases c15 : x36_2 < (y172.length : Int)
           ·rw [if_pos c15] at H
            have c15b0 : decide (x36_2 < (y172.length : Int)) = true := decide_eq_true c15
            clear c15
            have H' := Aside0.mk H
            clear H
            have p176 : 0 ≤ (x36_2 : Int) := of_decide_eq_true (by xas_)
            have q176 : x36_2 < (y172.length : Int) := of_decide_eq_true (by xas_)
            obtain ⟨ad176, e176, hx176_0⟩ := Kd.at_int HR175.out x36_2 p176 q176
            cases e176
            replace p176 := eq_true p176
            replace q176 := eq_true q176
            go_wp2
            go_roundg k2
            case measure => have := HJ3.out; have := HK2.out; omega
            case rel => exact ⟨(Go.bits .or .i64 (wrap64 (x8_2 * 256)) (wrap64 (rd y172 x36_2))), (wrap64 (x36_2 + 1)), (by xrs_), (by xrs_), H', ⟨by have := HJ3.out; have := HK2.out; omega⟩, by repeat (first | exact Drawn0.refl _ | apply Drawn0.step)⟩
           ·rw [if_neg c15] at H
            exact absurd H (by simp)
          ·rw [if_neg c14] at H
           exact absurd H (by simp)
         ·rw [if_neg c13] at H
          have c13b0 : decide (x36_2 < (y172.length : Int)) = false := decide_eq_false c13
          clear c13
          simp only [Option.some.injEq, Prod.mk.injEq] at H
          obtain ⟨rfl, rfl⟩ := H
          go_wp2
          go_ret2
          exact ⟨by first | rfl | (simp; done) | (simp [*]; done), by repeat (first | exact Drawn0.refl _ | apply Drawn0.step)⟩
      ·rw [if_neg c11] at H
       exact absurd H (by simp)
     ·rw [if_neg c10] at H
      exact absurd H (by simp)
    ·rw [if_neg c9] at H
     exact absurd H (by simp)
def table_sealed.f (k : Nat) (l0 : List Int) : Option (Bool) := (pack_Get.f k l0 (wrap64 ((l0.length : Int) - 4)) 4).bind fun bt177 => (if 0 ≤ (wrap64 ((l0.length : Int) - 4)) then (if (wrap64 ((l0.length : Int) - 4)) ≤ (l0.length : Int) then ((pack_Sum.f k (l0.take ((wrap64 ((l0.length : Int) - 4)) : Int).toNat)).bind fun t183 => (some (((bt177.1) % 4294967296) == t183))) else (none)) else (none))
theorem table_sealed.mono : ∀ a0 k, LeO (table_sealed.f k a0) (table_sealed.f (k + 1) a0) := by
 intro a0 k
 unfold table_sealed.f
 repeat' first
   | (with_reducible exact pack_Get.mono _ _ _ _)
   | (with_reducible exact pack_Sum.mono _ _)
   | (with_reducible exact LeO.refl _)
   | (with_reducible exact LeO.none _)
   | (with_reducible refine LeO.ite ?_ ?_)
   | (with_reducible refine LeO.bind ?_ (fun _ => ?_))
   | exact pack_Get.mono _ _ _ _
   | exact pack_Sum.mono _ _
   | exact LeO.none _
   | refine LeO.ite ?_ ?_
   | refine LeO.bind ?_ (fun _ => ?_)
set_option maxHeartbeats 8000000 in
set_option maxRecDepth 100000 in
theorem table_sealed.calls (k : Nat) (A0 : Option Addr) (c0 : Nat) (l0 : List Int) (r : Bool) (w : World) (hr0 : Kd.C (Kd.int .u8) w A0 l0.length l0) (hc0 : l0.length ≤ c0) (h : table_sealed.f k l0 = some r) :
  Calls Try.prog 32 #[.slice A0 l0.length c0] w fun e w' => e = .returned (.bool r) ∧ Drawn0 w w' := by
 have HR0 := Aside0.mk hr0
 have HC0 := Aside0.mk hc0
 clear hr0 hc0
 have H : ((pack_Get.f k l0 (wrap64 ((l0.length : Int) - 4)) 4).bind fun bt177 => (if 0 ≤ (wrap64 ((l0.length : Int) - 4)) then (if (wrap64 ((l0.length : Int) - 4)) ≤ (l0.length : Int) then ((pack_Sum.f k (l0.take ((wrap64 ((l0.length : Int) - 4)) : Int).toNat)).bind fun t183 => (some (((bt177.1) % 4294967296) == t183))) else (none)) else (none))) = some r := h
 clear h
 replace H := Option.bind_eq_some_iff.mp H
 obtain ⟨⟨t177, t178⟩, A20, H⟩ := H
 replace H : (if 0 ≤ (wrap64 ((l0.length : Int) - 4)) then (if (wrap64 ((l0.length : Int) - 4)) ≤ (l0.length : Int) then ((pack_Sum.f k (l0.take ((wrap64 ((l0.length : Int) - 4)) : Int).toNat)).bind fun t183 => (some (((t177) % 4294967296) == t183))) else (none)) else (none)) = some r := H
 have A2 := Aside0.mk A20
 clear A20
 obtain ⟨ji3, hji3⟩ : ∃ j_ : Int, (wrap64 ((l0.length : Int) - 4)) = j_ := ⟨_, rfl⟩
 replace H : (if 0 ≤ (ji3) then (if (ji3) ≤ (l0.length : Int) then ((pack_Sum.f k (l0.take ((ji3) : Int).toNat)).bind fun t183 => (some (((t177) % 4294967296) == t183))) else (none)) else (none)) = some r := by first | (rw [hji3] at H; exact H) | (simp only [hji3] at H ⊢; exact H)
 (try rw [hji3] at A2)
 have hji3w : (IntKind.i64.wrap ((l0.length : Int) - 4)) = ji3 := (i64_w _).trans hji3
 by_cases c4 : 0 ≤ (ji3)
 ·rw [if_pos c4] at H
  have c4b0 := eq_true c4
  have c4b1 : decide (0 ≤ (ji3)) = true := decide_eq_true c4
  clear c4
  by_cases c5 : (ji3) ≤ (l0.length : Int)
  ·rw [if_pos c5] at H
   have c5b0 := eq_true c5
   have c5b1 : decide ((ji3) ≤ (l0.length : Int)) = true := decide_eq_true c5
   clear c5
   obtain ⟨y179, hy179⟩ : ∃ y_ : List Int, y_ = (l0.take ((ji3) : Int).toNat) := ⟨_, rfl⟩
   replace H : ((pack_Sum.f k y179).bind fun t183 => (some (((t177) % 4294967296) == t183))) = some r := by first | (rw [hy179]; with_reducible exact H) | (have H2_ := (Option.bind_some _ _).symm.trans H; rw [hy179]; with_reducible exact H2_) | (have H2_ := (Option.bind_some _ _).symm.trans H; with_reducible exact H2_) | with_reducible exact H | (rw [hy179]; exact H) | exact H
   have Ny179 := Aside0.mk hy179
   clear hy179
   replace H := Option.bind_eq_some_iff.mp H
   obtain ⟨t183, A60, H⟩ := H
   replace H : (some (((t177) % 4294967296) == t183)) = some r := H
   have A6 := Aside0.mk A60
   clear A60
   obtain rfl := Option.some.inj H
   go_enter Try.func32, Try.ntmps32
   go_wp2_with (first | ((with_reducible refine gate_callee (f := 34) rfl ?_); refine goesL_ (some 12) rfl rfl Try.func34 (by kernel_rfl) rfl #[.slice A0 l0.length c0, .int .i64 ji3, .int .i64 4] rfl (by (try simp only [List.map_toArray, List.map_cons, List.map_nil]); first | done | (simp only [hji3]; rfl) | rfl | (simp only [List.length_drop, List.length_take]; rfl)) ?_; (with_reducible refine (pack_Get.calls k _ _ l0 ji3 4 t177 t178 _ ?side1 ?side2 A2.out).mono ?_); (case side1 => repeat (first | exact HR0.out | xkC_)); (case side2 => exact HC0.out); rintro e w' ⟨rfl, ⟨nd, rfl⟩⟩; refine ⟨_, rfl, ?_⟩; have q7 : ((ji3) : Int) ≤ ((l0.length : Int) : Int) := of_decide_eq_true (by xas_); obtain ⟨i07, hi07, _, hsz7, _⟩ := info_parts info5; have hroom7 : l0.length ≤ c0 := HC0.out; have hC7 : Kd.C (Kd.int .u8) _ A0 l0.length l0 := HR0.out; have hcut7 := cut_to (P := Try.prog) 27 5 .i64 Try.underlying27 hi07 A0 l0.length c0 (ji3) (of_decide_eq_true (by xas_)) q7 hroom7; have hr7 := Kd.C_take (m := ((ji3) : Int).toNat) hC7 (by omega); have hy7 : y179.length = ((ji3) : Int).toNat := (by rw [Ny179.out, List.length_take]; omega); rw [← Ny179.out] at hr7; rw [← hy7] at hcut7; have HR182 := Aside0.mk hr7; have HC182 := Aside0.mk (show y179.length ≤ c0 from by omega); clear hr7 hC7 hroom7 hi07 hsz7; have KY7 := Aside0.mk hy7; clear hy7; replace q7 := eq_true q7) | ((with_reducible refine gate_callee (f := 29) rfl ?_); refine goesL_ (some 20) rfl rfl Try.func29 (by kernel_rfl) rfl #[.slice A0 y179.length c0] rfl (by xlm_) ?_; (with_reducible refine (pack_Sum.calls k _ _ y179 t183 _ ?side1 ?side2 A6.out).mono ?_); (case side1 => repeat (first | exact HR182.out | xkC_)); (case side2 => exact HC182.out); rintro e w' ⟨rfl, ⟨nd, rfl⟩⟩; refine ⟨_, rfl, ?_⟩))
   go_ret
   exact ⟨by first | rfl | (simp; done) | (simp only [← hji3] <;> (first | rfl | simp)) | (simp [*]; done), by repeat (first | exact Drawn0.refl _ | apply Drawn0.step)⟩
  ·rw [if_neg c5] at H
   exact absurd H (by simp)
 ·rw [if_neg c4] at H
  exact absurd H (by simp)
def slices_Equal_byte_byte.l0 : Nat → List Int → List Int → Int → Int → Option (Bool)
 | 0, _, _, _, _ => none
 | k + 1, x0, x1, x12, x13 => if x13 < x12 then (if 0 ≤ x13 then (if x13 < (x0.length : Int) then (if x13 < (x1.length : Int) then (if (rd x0 x13) = (rd x1 x13) then (slices_Equal_byte_byte.l0 k x0 x1 x12 (wrap64 (x13 + 1))) else (some false)) else (none)) else (none)) else (none)) else (some true)
def slices_Equal_byte_byte.f (k : Nat) (l0 : List Int) (l1 : List Int) : Option (Bool) := if (l0.length : Int) = (l1.length : Int) then (slices_Equal_byte_byte.l0 k l0 l1 (l0.length : Int) 0) else (some false)
theorem slices_Equal_byte_byte.mono_l : ∀ k, (∀ y0 y1 y2 y3, LeO (slices_Equal_byte_byte.l0 k y0 y1 y2 y3) (slices_Equal_byte_byte.l0 (k + 1) y0 y1 y2 y3))
 | 0 => fun _ _ _ _ r h => by simp [slices_Equal_byte_byte.l0] at h
 | k + 1 => by
  have ih0 := slices_Equal_byte_byte.mono_l k
  ·intro y0 y1 y2 y3
   unfold slices_Equal_byte_byte.l0
   repeat' first
   | (with_reducible exact ih0 _ _ _ _)
   | (with_reducible exact LeO.refl _)
   | (with_reducible exact LeO.none _)
   | (with_reducible refine LeO.ite ?_ ?_)
   | (with_reducible refine LeO.bind ?_ (fun _ => ?_))
   | exact ih0 _ _ _ _
   | exact LeO.none _
   | refine LeO.ite ?_ ?_
   | refine LeO.bind ?_ (fun _ => ?_)
theorem slices_Equal_byte_byte.mono : ∀ a0 a1 k, LeO (slices_Equal_byte_byte.f k a0 a1) (slices_Equal_byte_byte.f (k + 1) a0 a1) := by
 intro a0 a1 k
 have ih0 := slices_Equal_byte_byte.mono_l k
 unfold slices_Equal_byte_byte.f
 repeat' first
   | (with_reducible exact ih0 _ _ _ _)
   | (with_reducible exact LeO.refl _)
   | (with_reducible exact LeO.none _)
   | (with_reducible refine LeO.ite ?_ ?_)
   | (with_reducible refine LeO.bind ?_ (fun _ => ?_))
   | exact ih0 _ _ _ _
   | exact LeO.none _
   | refine LeO.ite ?_ ?_
   | refine LeO.bind ?_ (fun _ => ?_)
set_option maxHeartbeats 8000000 in
set_option maxRecDepth 100000 in
theorem slices_Equal_byte_byte.calls (k : Nat) (A0 : Option Addr) (c0 : Nat) (l0 : List Int) (A1 : Option Addr) (c1 : Nat) (l1 : List Int) (r : Bool) (w : World) (hr0 : Kd.C (Kd.int .u8) w A0 l0.length l0) (hc0 : l0.length ≤ c0) (hr1 : Kd.C (Kd.int .u8) w A1 l1.length l1) (hc1 : l1.length ≤ c1) (h : slices_Equal_byte_byte.f k l0 l1 = some r) :
  Calls Try.prog 51 #[.slice A0 l0.length c0, .slice A1 l1.length c1] w fun e w' => e = .returned (.bool r) ∧ Drawn0 w w' := by
 have HR0 := Aside0.mk hr0
 have HC0 := Aside0.mk hc0
 clear hr0 hc0
 have HR1 := Aside0.mk hr1
 have HC1 := Aside0.mk hc1
 clear hr1 hc1
 have H : (if (l0.length : Int) = (l1.length : Int) then (slices_Equal_byte_byte.l0 k l0 l1 (l0.length : Int) 0) else (some false)) = some r := h
 clear h
 by_cases c3 : (l0.length : Int) = (l1.length : Int)
 ·rw [if_pos c3] at H
  have c3b0 : ((l0.length : Int) == (l1.length : Int)) = true := beq_iff_eq.mpr c3
  have c3b1 : ((l0.length : Int) != (l1.length : Int)) = false := bne_eq_false_iff_eq.mpr c3
  have c3b2 : (l0.length == l1.length) = true := by first | simpa using c3 | (simp at c3 ⊢; omega)
  clear c3
  have H' := Aside0.mk H
  clear H
  go_enter Try.func51, Try.ntmps51
  go_wp2
  repeat (go_quiet (fail); try go_wp2)
  go_loopg [13] k (fun kq v13 w' => ∃ (x13_1 : Int), v13 = .int .i64 x13_1 ∧ Aside0 (slices_Equal_byte_byte.l0 kq l0 l1 (l0.length : Int) x13_1 = some r) ∧ Aside0 (kq ≤ k) ∧ Drawn0 w w')
  case atStart => exact ⟨(0), (by xrs_), H', ⟨Nat.le_refl _⟩, by repeat (first | exact Drawn0.refl _ | apply Drawn0.step)⟩
  case round =>
   clear H'
   xcl_ c1 p2 c3 c3b0 c3b1 c3b2
   obtain ⟨x13_1, rfl, HA, HK1, ⟨m1, rfl⟩⟩ := hrel
   cases gk with
   | zero => exact absurd HA.out (by simp [slices_Equal_byte_byte.l0])
   | succ k1 =>
    have H := HA.out
    clear HA
    simp only [slices_Equal_byte_byte.l0] at H
    by_cases c4 : x13_1 < (l0.length : Int)
    ·rw [if_pos c4] at H
     have c4b0 : decide (x13_1 < (l0.length : Int)) = true := decide_eq_true c4
     clear c4
     by_cases c5 : 0 ≤ x13_1
     ·rw [if_pos c5] at H
      have c5b0 : decide (0 ≤ x13_1) = true := decide_eq_true c5
      clear c5
      by_cases c6 : x13_1 < (l0.length : Int)
      ·rw [if_pos c6] at H
       have c6b0 : decide (x13_1 < (l0.length : Int)) = true := decide_eq_true c6
       clear c6
       by_cases c7 : x13_1 < (l1.length : Int)
       ·rw [if_pos c7] at H
        have c7b0 : decide (x13_1 < (l1.length : Int)) = true := decide_eq_true c7
        clear c7
        by_cases c8 : (rd l0 x13_1) = (rd l1 x13_1)
        ·rw [if_pos c8] at H
         have c8b0 : ((rd l0 x13_1) == (rd l1 x13_1)) = true := beq_iff_eq.mpr c8
         have c8b1 : ((rd l0 x13_1) != (rd l1 x13_1)) = false := bne_eq_false_iff_eq.mpr c8
         clear c8
         have H' := Aside0.mk H
         clear H
         have p184 : 0 ≤ (x13_1 : Int) := of_decide_eq_true (by xas_)
         have q184 : x13_1 < (l0.length : Int) := of_decide_eq_true (by xas_)
         obtain ⟨ad184, e184, hx184_0⟩ := Kd.at_int HR0.out x13_1 p184 q184
         cases e184
         replace p184 := eq_true p184
         replace q184 := eq_true q184
         have p185 : 0 ≤ (x13_1 : Int) := of_decide_eq_true (by xas_)
         have q185 : x13_1 < (l1.length : Int) := of_decide_eq_true (by xas_)
         obtain ⟨ad185, e185, hx185_0⟩ := Kd.at_int HR1.out x13_1 p185 q185
         cases e185
         replace p185 := eq_true p185
         replace q185 := eq_true q185
         go_wp2
         repeat (go_quiet (fail); try go_wp2)
         go_roundg k1
         case measure => have := HK1.out; omega
         case rel => exact ⟨(wrap64 (x13_1 + 1)), (by xrs_), H', ⟨by have := HK1.out; omega⟩, by repeat (first | exact Drawn0.refl _ | apply Drawn0.step)⟩
        ·rw [if_neg c8] at H
         have c8b0 : ((rd l0 x13_1) == (rd l1 x13_1)) = false := beq_eq_false_iff_ne.mpr c8
         have c8b1 : ((rd l0 x13_1) != (rd l1 x13_1)) = true := bne_iff_ne.mpr c8
         obtain rfl := Option.some.inj H
         have p184 : 0 ≤ (x13_1 : Int) := of_decide_eq_true (by xas_)
         have q184 : x13_1 < (l0.length : Int) := of_decide_eq_true (by xas_)
         obtain ⟨ad184, e184, hx184_0⟩ := Kd.at_int HR0.out x13_1 p184 q184
         cases e184
         replace p184 := eq_true p184
         replace q184 := eq_true q184
         have p185 : 0 ≤ (x13_1 : Int) := of_decide_eq_true (by xas_)
         have q185 : x13_1 < (l1.length : Int) := of_decide_eq_true (by xas_)
         obtain ⟨ad185, e185, hx185_0⟩ := Kd.at_int HR1.out x13_1 p185 q185
         cases e185
         replace p185 := eq_true p185
         replace q185 := eq_true q185
         go_wp2
         repeat (go_quiet (fail); try go_wp2)
         go_ret
         exact ⟨by first | rfl | (simp; done) | (simp [*]; done), by repeat (first | exact Drawn0.refl _ | apply Drawn0.step)⟩
       ·rw [if_neg c7] at H
        exact absurd H (by simp)
      ·rw [if_neg c6] at H
       exact absurd H (by simp)
     ·rw [if_neg c5] at H
      exact absurd H (by simp)
    ·rw [if_neg c4] at H
     have c4b0 : decide (x13_1 < (l0.length : Int)) = false := decide_eq_false c4
     clear c4
     obtain rfl := Option.some.inj H
     go_wp2
     repeat (go_quiet (fail); try go_wp2)
     go_ret
     exact ⟨by first | rfl | (simp; done) | (simp [*]; done), by repeat (first | exact Drawn0.refl _ | apply Drawn0.step)⟩
 ·rw [if_neg c3] at H
  have c3b0 : ((l0.length : Int) == (l1.length : Int)) = false := beq_eq_false_iff_ne.mpr c3
  have c3b1 : ((l0.length : Int) != (l1.length : Int)) = true := bne_iff_ne.mpr c3
  have c3b2 : (l0.length == l1.length) = false := by first | simpa using c3 | (simp at c3 ⊢; omega)
  obtain rfl := Option.some.inj H
  go_enter Try.func51, Try.ntmps51
  go_wp2
  repeat (go_quiet (fail); try go_wp2)
  go_ret
  exact ⟨by first | rfl | (simp; done) | (simp [*]; done), by repeat (first | exact Drawn0.refl _ | apply Drawn0.step)⟩
mutual
def pack_Unbits.j0 : Nat → List Int → Int → Bool → Option (List Bool × Bool)
 | 0, _, _, _ => none
 | k + 1, x0, x1, x23 => if x23 = true then (some (([] : List Bool), false)) else (if 0 ≤ x1 then (if (x1 : Int).toNat ≤ 281474976710656 then ((some (List.replicate (x1 : Int).toNat false : List Bool)).bind fun y187 => (pack_Unbits.l0 k x0 y187 (y187.length : Int) 0)) else (none)) else (none))
def pack_Unbits.l0 : Nat → List Int → List Bool → Int → Int → Option (List Bool × Bool)
 | 0, _, _, _, _ => none
 | k + 1, x0, x6, x27, x28 => if x28 < x27 then (if 0 ≤ (wrap64 (Int.tdiv x28 8)) then (if (wrap64 (Int.tdiv x28 8)) < (x0.length : Int) then (if 0 ≤ (Int.tmod x28 8) then (if 0 ≤ x28 then (if x28 < (x6.length : Int) then (pack_Unbits.l0 k x0 (x6.set (x28 : Int).toNat ((Go.bits .and .u8 (shr .u8 (rd x0 (wrap64 (Int.tdiv x28 8))) (Int.tmod x28 8)) 1) == 1)) x27 (wrap64 (x28 + 1))) else (none)) else (none)) else (none)) else (none)) else (none)) else ((pack_Bits.f k x6).bind fun t192 => ((slices_Equal_byte_byte.f k t192 x0).bind fun t195 => (if t195 = true then (some (x6, true)) else (some (([] : List Bool), false)))))
end
def pack_Unbits.f (k : Nat) (l0 : List Int) (a1 : Int) : Option (List Bool × Bool) := if a1 < 0 then (pack_Unbits.j0 k l0 a1 true) else (if a1 > (wrap64 (8 * (l0.length : Int))) then (pack_Unbits.j0 k l0 a1 true) else ((pack_length.f a1).bind fun t186 => (pack_Unbits.j0 k l0 a1 ((l0.length : Int) != t186))))
theorem pack_Unbits.mono_l : ∀ k, (∀ y0 y1 y2, LeO (pack_Unbits.j0 k y0 y1 y2) (pack_Unbits.j0 (k + 1) y0 y1 y2)) ∧ (∀ y0 y1 y2 y3, LeO (pack_Unbits.l0 k y0 y1 y2 y3) (pack_Unbits.l0 (k + 1) y0 y1 y2 y3))
 | 0 => ⟨fun _ _ _ r h => by simp [pack_Unbits.j0] at h, fun _ _ _ _ r h => by simp [pack_Unbits.l0] at h⟩
 | k + 1 => by
  obtain ⟨ih0, ih1⟩ := pack_Unbits.mono_l k
  refine ⟨?_, ?_⟩
  ·intro y0 y1 y2
   unfold pack_Unbits.j0
   repeat' first
   | (with_reducible exact ih0 _ _ _)
   | (with_reducible exact ih1 _ _ _ _)
   | (with_reducible exact pack_Bits.mono _ _)
   | (with_reducible exact slices_Equal_byte_byte.mono _ _ _)
   | (with_reducible exact LeO.refl _)
   | (with_reducible exact LeO.none _)
   | (with_reducible refine LeO.ite ?_ ?_)
   | (with_reducible refine LeO.bind ?_ (fun _ => ?_))
   | exact ih0 _ _ _
   | exact ih1 _ _ _ _
   | exact pack_Bits.mono _ _
   | exact slices_Equal_byte_byte.mono _ _ _
   | exact LeO.none _
   | refine LeO.ite ?_ ?_
   | refine LeO.bind ?_ (fun _ => ?_)
  ·intro y0 y1 y2 y3
   unfold pack_Unbits.l0
   repeat' first
   | (with_reducible exact ih0 _ _ _)
   | (with_reducible exact ih1 _ _ _ _)
   | (with_reducible exact pack_Bits.mono _ _)
   | (with_reducible exact slices_Equal_byte_byte.mono _ _ _)
   | (with_reducible exact LeO.refl _)
   | (with_reducible exact LeO.none _)
   | (with_reducible refine LeO.ite ?_ ?_)
   | (with_reducible refine LeO.bind ?_ (fun _ => ?_))
   | exact ih0 _ _ _
   | exact ih1 _ _ _ _
   | exact pack_Bits.mono _ _
   | exact slices_Equal_byte_byte.mono _ _ _
   | exact LeO.none _
   | refine LeO.ite ?_ ?_
   | refine LeO.bind ?_ (fun _ => ?_)
theorem pack_Unbits.mono : ∀ a0 a1 k, LeO (pack_Unbits.f k a0 a1) (pack_Unbits.f (k + 1) a0 a1) := by
 intro a0 a1 k
 obtain ⟨ih0, ih1⟩ := pack_Unbits.mono_l k
 unfold pack_Unbits.f
 repeat' first
   | (with_reducible exact ih0 _ _ _)
   | (with_reducible exact ih1 _ _ _ _)
   | (with_reducible exact pack_Bits.mono _ _)
   | (with_reducible exact slices_Equal_byte_byte.mono _ _ _)
   | (with_reducible exact LeO.refl _)
   | (with_reducible exact LeO.none _)
   | (with_reducible refine LeO.ite ?_ ?_)
   | (with_reducible refine LeO.bind ?_ (fun _ => ?_))
   | exact ih0 _ _ _
   | exact ih1 _ _ _ _
   | exact pack_Bits.mono _ _
   | exact slices_Equal_byte_byte.mono _ _ _
   | exact LeO.none _
   | refine LeO.ite ?_ ?_
   | refine LeO.bind ?_ (fun _ => ?_)
set_option maxHeartbeats 8000000 in
set_option maxRecDepth 100000 in
theorem pack_Unbits.calls (k : Nat) (A0 : Option Addr) (c0 : Nat) (l0 : List Int) (a1 : Int) (r1 : List Bool) (r2 : Bool) (w : World) (hr0 : Kd.C (Kd.int .u8) w A0 l0.length l0) (hc0 : l0.length ≤ c0) (h : pack_Unbits.f k l0 a1 = some (r1, r2)) :
  Calls Try.prog 35 #[.slice A0 l0.length c0, .int .i64 a1] w fun e w' => ∃ v0_ : Value, e = .returned (.tuple #[v0_, .bool r2]) ∧ Kd.R Kd.bool 4 w' w.heap.size (fun _ => True) v0_ r1 ∧ Below w.heap.size w w' := by
 have HR0 := Aside0.mk hr0
 have HC0 := Aside0.mk hc0
 clear hr0 hc0
 have HB := Aside0.mk (Below.refl w.heap.size w)
 have H : (if a1 < 0 then (pack_Unbits.j0 k l0 a1 true) else (if a1 > (wrap64 (8 * (l0.length : Int))) then (pack_Unbits.j0 k l0 a1 true) else ((pack_length.f a1).bind fun t186 => (pack_Unbits.j0 k l0 a1 ((l0.length : Int) != t186))))) = some (r1, r2) := h
 clear h
 have HC3 := Aside0.mk H
 clear H
 go_enter Try.func35, Try.ntmps35
 go_upto_region 1 with (fail)
 go_cut [23] (fun v23 wc => ∃ (kq : Nat) (x23_2 : Bool), v23 = .bool x23_2 ∧ Aside0 (pack_Unbits.j0 kq l0 a1 x23_2 = some (r1, r2)) ∧ Aside0 (kq ≤ k) ∧ Aside0 (Below w.heap.size w wc))
 case first =>
  have H := HC3.out
  clear HC3
  by_cases c4 : a1 < 0
  ·rw [if_pos c4] at H
   have c4b0 : decide (a1 < 0) = true := decide_eq_true c4
   clear c4
   (first | rw [c4b0] | (simp only [i64_w, i32_w]; rw [c4b0]) | skip)
   have H' := Aside0.mk H
   clear H
   go_wp2
   go_meet
   case rel => exact ⟨_, (true), (by xrs_), H', ⟨by first | omega | exact Nat.le_refl _⟩, ⟨by repeat (first | (with_reducible first | exact HB.out | apply below_alloc | apply pw_below_drewN | apply below_drew1) | exact HB.out)⟩⟩
  ·rw [if_neg c4] at H
   have c4b0 : decide (a1 < 0) = false := decide_eq_false c4
   clear c4
   (first | rw [c4b0] | (simp only [i64_w, i32_w]; rw [c4b0]) | skip)
   by_cases c5 : a1 > (wrap64 (8 * (l0.length : Int)))
   ·rw [if_pos c5] at H
    have c5b0 : decide ((wrap64 (8 * (l0.length : Int))) < a1) = true := decide_eq_true c5
    (try (have c5b0_hl6_2 := c5b0; rw [hl6_2] at c5b0_hl6_2))
    clear c5
    have H' := Aside0.mk H
    clear H
    go_wp2
    go_meet
    case rel => exact ⟨_, (true), (by xrs_), H', ⟨by first | omega | exact Nat.le_refl _⟩, ⟨by repeat (first | (with_reducible first | exact HB.out | apply below_alloc | apply pw_below_drewN | apply below_drew1) | exact HB.out)⟩⟩
   ·rw [if_neg c5] at H
    have c5b0 : decide ((wrap64 (8 * (l0.length : Int))) < a1) = false := decide_eq_false c5
    (try (have c5b0_hl6_2 := c5b0; rw [hl6_2] at c5b0_hl6_2))
    clear c5
    replace H := Option.bind_eq_some_iff.mp H
    obtain ⟨t186, A60, H⟩ := H
    replace H : (pack_Unbits.j0 k l0 a1 ((l0.length : Int) != t186)) = some (r1, r2) := H
    have A6 := Aside0.mk A60
    clear A60
    have H' := Aside0.mk H
    clear H
    go_wp2_with (first | (go_at_call 49; (with_reducible refine (pack_length.calls a1 t186 _ A6.out).mono ?_); rintro e w' ⟨rfl, ⟨nd, rfl⟩⟩))
    go_meet
    case rel => exact ⟨_, (((l0.length : Int) != t186)), (by xrs_), H', ⟨by first | omega | exact Nat.le_refl _⟩, ⟨by repeat (first | (with_reducible first | exact HB.out | apply below_alloc | apply pw_below_drewN | apply below_drew1) | exact HB.out)⟩⟩
 case rest =>
  clear HC3
  xcl_ p2 c3 c4 c4b0 c5 c5b0 p6
  obtain ⟨kq, x23_2, rfl, HA, HJ2, HB⟩ := hcut
  cases kq with
  | zero => exact absurd HA.out (by simp [pack_Unbits.j0])
  | succ kj2 =>
   have H := HA.out
   clear HA
   simp only [pack_Unbits.j0] at H
   by_cases c7 : x23_2 = true
   ·subst c7
    have H1 : (some (([] : List Bool), false)) = some (r1, r2) := by rw [if_pos rfl] at H; exact H
    clear H
    have H := H1
    clear H1
    simp only [Option.some.injEq, Prod.mk.injEq] at H
    obtain ⟨rfl, rfl⟩ := H
    go_wp2
    go_ret2
    exact ⟨_, by first | rfl | (simp [errW_none, errW_some] <;> rfl) | (simp [*, errW_none, errW_some] <;> rfl), by xni_, by repeat (first | (with_reducible first | exact HB.out | apply below_alloc | apply pw_below_drewN | apply below_drew1) | exact HB.out)⟩
   ·replace c7 := Bool.eq_false_iff.mpr c7
    subst c7
    have H1 : (if 0 ≤ a1 then (if (a1 : Int).toNat ≤ 281474976710656 then ((some (List.replicate (a1 : Int).toNat false : List Bool)).bind fun y187 => (pack_Unbits.l0 kj2 l0 y187 (y187.length : Int) 0)) else (none)) else (none)) = some (r1, r2) := by rw [if_neg (show ¬ (false = true) by decide)] at H; exact H
    clear H
    have H := H1
    clear H1
    by_cases c8 : 0 ≤ a1
    ·rw [if_pos c8] at H
     have c8b0 := eq_true c8
     have c8b1 : decide (0 ≤ a1) = true := decide_eq_true c8
     clear c8
     by_cases c9 : (a1 : Int).toNat ≤ 281474976710656
     ·rw [if_pos c9] at H
      have c9b0 := eq_true c9
      have c9b1 : decide ((a1 : Int).toNat ≤ 281474976710656) = true := decide_eq_true c9
      clear c9
      obtain ⟨y187, hy187⟩ : ∃ y_ : List Bool, y_ = (List.replicate (a1 : Int).toNat false) := ⟨_, rfl⟩
      replace H : (pack_Unbits.l0 kj2 l0 y187 (y187.length : Int) 0) = some (r1, r2) := by first | (rw [hy187]; with_reducible exact H) | (have H2_ := (Option.bind_some _ _).symm.trans H; rw [hy187]; with_reducible exact H2_) | (have H2_ := (Option.bind_some _ _).symm.trans H; with_reducible exact H2_) | with_reducible exact H | (rw [hy187]; exact H) | exact H
      have Ny187 := Aside0.mk hy187
      clear hy187
      have H' := Aside0.mk H
      clear H
      go_wp2_with (first | ((with_reducible refine gate_dst (N := 25) rfl ?_); xgg_; refine Kd.R_make Kd.bool _ 4 rfl (N := 25) rfl 24 _ _ rfl a1 rfl rfl Try.underlying24 (.bool false) 1 info4 rfl (by decide) (by omega) false (ok := fun _ => True) (okp := fun _ => True) rfl (fun _ hk => hk) trivial (of_decide_eq_true (by xas_)) (Nat.le_trans (Nat.mul_le_mul_right _ (of_decide_eq_true (by xas_) : a1.toNat ≤ 281474976710656)) (by omega)) (Below.refl _ _) (Nat.le_refl _) ?_; intro v188 w10 ho11 hb hg_ hnew_; clear hg_ hnew_; (first | rw [← Ny187.out] at ho11 | (simp only [Int.reduceToNat] at ho11; rw [← Ny187.out] at ho11)); have n0_ := Aside0.mk (Kd.R_lower ho11 (below_size (by repeat (first | (with_reducible first | exact HB.out | apply below_alloc | apply pw_below_drewN | apply below_drew1) | exact HB.out)))); have n1_ := Aside0.mk (below_step (by repeat (first | (with_reducible first | exact HB.out | apply below_alloc | apply pw_below_drewN | apply below_drew1) | exact HB.out)) hb); clear HB; have HO189 := n0_; have HB := n1_; clear n0_ n1_; clear hb ho11; obtain ⟨Ao12, co12, eo12⟩ := Kd.R_slice HO189.out; subst eo12))
      go_loopg [28] kj2 (fun kq v28 w' => ∃ (x6_2 : List Bool) (x28_2 : Int), v28 = .int .i64 x28_2 ∧ Aside0 (pack_Unbits.l0 kq l0 x6_2 (y187.length : Int) x28_2 = some (r1, r2)) ∧ Aside0 (kq ≤ kj2) ∧ Aside0 (Kd.R Kd.bool 4 w' w.heap.size (fun _ => True) (.slice Ao12 y187.length co12) x6_2) ∧ Aside0 (Below w.heap.size w w'))
      case atStart => exact ⟨(y187), (0), (by xrs_), H', ⟨Nat.le_refl _⟩, ⟨by xkR_; exact HO189.out⟩, ⟨by repeat (first | (with_reducible first | exact HB.out | apply below_alloc | apply pw_below_drewN | apply below_drew1) | exact HB.out)⟩⟩
      case round =>
       clear H'
       xcl_ p2 c3 c4 c4b0 c5 c5b0 p6 c7 c8 c8b0 c8b1 c9 c9b0 c9b1 p2 p6
       obtain ⟨x6_2, x28_2, rfl, HA, HK2, HO_6, HB⟩ := hrel
       have hl6_2 := (Kd.R_reads' HO_6.out).1
       rw [hl6_2] at HO_6
       (try simp only [hl6_2])
       cases gk with
       | zero => exact absurd HA.out (by simp [pack_Unbits.l0])
       | succ k2 =>
        have H := HA.out
        clear HA
        simp only [pack_Unbits.l0] at H
        by_cases c13 : x28_2 < (y187.length : Int)
        ·rw [if_pos c13] at H
         have c13b0 : decide (x28_2 < (y187.length : Int)) = true := decide_eq_true c13
         (try (have c13b0_hl6_2 := c13b0; rw [hl6_2] at c13b0_hl6_2))
         clear c13
         obtain ⟨ji14, hji14⟩ : ∃ j_ : Int, (wrap64 (Int.tdiv x28_2 8)) = j_ := ⟨_, rfl⟩
         replace H : (if 0 ≤ (ji14) then (if (ji14) < (l0.length : Int) then (if 0 ≤ (Int.tmod x28_2 8) then (if 0 ≤ x28_2 then (if x28_2 < (x6_2.length : Int) then (pack_Unbits.l0 k2 l0 (x6_2.set (x28_2 : Int).toNat ((Go.bits .and .u8 (shr .u8 (rd l0 (ji14)) (Int.tmod x28_2 8)) 1) == 1)) (y187.length : Int) (wrap64 (x28_2 + 1))) else (none)) else (none)) else (none)) else (none)) else (none)) = some (r1, r2) := by first | (rw [hji14] at H; exact H) | (simp only [hji14] at H ⊢; exact H)
         have hji14w : (IntKind.i64.wrap (Int.tdiv x28_2 8)) = ji14 := (i64_w _).trans hji14
         by_cases c15 : 0 ≤ (ji14)
         ·rw [if_pos c15] at H
          have c15b0 : decide (0 ≤ (ji14)) = true := decide_eq_true c15
          clear c15
          by_cases c16 : (ji14) < (l0.length : Int)
          ·rw [if_pos c16] at H
           have c16b0 : decide ((ji14) < (l0.length : Int)) = true := decide_eq_true c16
           (try (have c16b0_hl6_2 := c16b0; rw [hl6_2] at c16b0_hl6_2))
           clear c16
           obtain ⟨ji17, hji17⟩ : ∃ j_ : Int, (Int.tmod x28_2 8) = j_ := ⟨_, rfl⟩
           replace H : (if 0 ≤ (ji17) then (if 0 ≤ x28_2 then (if x28_2 < (x6_2.length : Int) then (pack_Unbits.l0 k2 l0 (x6_2.set (x28_2 : Int).toNat ((Go.bits .and .u8 (shr .u8 (rd l0 (ji14)) (ji17)) 1) == 1)) (y187.length : Int) (wrap64 (x28_2 + 1))) else (none)) else (none)) else (none)) = some (r1, r2) := by first | (rw [hji17] at H; exact H) | (simp only [hji17] at H ⊢; exact H)
           by_cases c18 : 0 ≤ (ji17)
           ·rw [if_pos c18] at H
            have c18b0 := eq_true c18
            have c18b1 : decide (0 ≤ (ji17)) = true := decide_eq_true c18
            clear c18
            obtain ⟨ji19, hji19⟩ : ∃ j_ : Int, (shr .u8 (rd l0 (ji14)) (ji17)) = j_ := ⟨_, rfl⟩
            replace H : (if 0 ≤ x28_2 then (if x28_2 < (x6_2.length : Int) then (pack_Unbits.l0 k2 l0 (x6_2.set (x28_2 : Int).toNat ((Go.bits .and .u8 (ji19) 1) == 1)) (y187.length : Int) (wrap64 (x28_2 + 1))) else (none)) else (none)) = some (r1, r2) := by first | (rw [hji19] at H; exact H) | (simp only [hji19] at H ⊢; exact H)
            have hji19_ : ((rd l0 (ji14)) / 2 ^ min (ji17).toNat 8) = ji19 := hji19
            have hji19z : (ji17) ≤ 8 → ((rd l0 (ji14)) / 2 ^ (ji17).toNat) = ji19 := shr_small hji19
            by_cases c20 : 0 ≤ x28_2
            ·rw [if_pos c20] at H
             have c20b0 : decide (0 ≤ x28_2) = true := decide_eq_true c20
             clear c20
             by_cases c21 : x28_2 < (x6_2.length : Int)
             ·rw [if_pos c21] at H
              have c21b0 : decide (x28_2 < (x6_2.length : Int)) = true := decide_eq_true c21
              (try (have c21b0_hl6_2 := c21b0; rw [hl6_2] at c21b0_hl6_2))
              clear c21
              obtain ⟨y191, hy191⟩ : ∃ y_ : List Bool, y_ = (x6_2.set (x28_2 : Int).toNat ((Go.bits .and .u8 (ji19) 1) == 1)) := ⟨_, rfl⟩
              replace H : (pack_Unbits.l0 k2 l0 y191 (y187.length : Int) (wrap64 (x28_2 + 1))) = some (r1, r2) := by first | (rw [hy191]; with_reducible exact H) | (have H2_ := (Option.bind_some _ _).symm.trans H; rw [hy191]; with_reducible exact H2_) | (have H2_ := (Option.bind_some _ _).symm.trans H; with_reducible exact H2_) | with_reducible exact H | (rw [hy191]; exact H) | exact H
              have Ny191 := Aside0.mk hy191
              clear hy191
              have H' := Aside0.mk H
              clear H
              have p190 : 0 ≤ ((ji14) : Int) := of_decide_eq_true (by xas_)
              have q190 : (ji14) < (l0.length : Int) := of_decide_eq_true (by xas_)
              obtain ⟨ad190, e190, hx190_0⟩ := Kd.at_int HR0.out (ji14) p190 q190
              cases e190
              replace hx190_0 := (HB.out.cell (World.block_lt_of_cell? w _ hx190_0)).trans hx190_0
              replace p190 := eq_true p190
              replace q190 := eq_true q190
              have p22 : 0 ≤ (x28_2 : Int) := of_decide_eq_true (by xas_)
              have q22 : (x28_2 : Int) < ((x6_2.length : Int) : Int) := of_decide_eq_true (by xas_)
              obtain ⟨go22, co22, eo22, gb22, gl22, cl22, HG22⟩ := Kd.R_form HO_6.out (by omega)
              (first | cases eo22 | (injection eo22 with ea_ en_ ec_; (first | subst ea_ | (injection ea_ with ea_; subst ea_)); subst ec_; clear en_))
              have GB22 := Aside0.mk gb22
              have GG22 := Aside0.mk HG22
              clear gb22 gl22 HG22
              obtain ⟨hx22_0, hf22_0⟩ := Kd.R_celln false HO_6.out (x28_2 : Int) p22 q22
              replace p22 := eq_true p22
              replace q22 := eq_true q22
              have HP23 := Kd.R_putg HO_6.out (x28_2 : Int) ((Go.bits .and .u8 (ji19) 1) == 1)
              go_wp2_with (first | ((with_reducible refine gate_store (t := 4) (p := 43) rfl ?_); refine store_event (t := 4) (p := 43) (v := ?vo_w24) (w1 := (wr.setCell ⟨go22, (x28_2 : Int).toNat, none⟩ (.bool ((Go.bits .and .u8 (ji19) 1) == 1)))) ?hg ?ho ?hn ?hr ?_; (case ho => rfl); (case hg => rfl); (case hn => rfl); (case hr => xgs_); intro w24 hw; have hg : wr.grownBy w24 (some go22) := (by rw [hw]; exact HP23.2); have hp_ : Kd.R Kd.bool 4 w24 w.heap.size (fun _ => True) (.slice (some ⟨go22, 0, none⟩) x6_2.length co12) y191 := (by rw [hw, Ny191.out]; exact HP23.1); clear HP23; have n0_ := Aside0.mk (hp_); have n1_ := Aside0.mk ((by rw [hw]; exact below_set (HB.out) GB22.out : Below w.heap.size w w24)); clear HO_6; clear HB; have HO_6 := n0_; have HB := n1_; clear n0_ n1_; clear hg hw hp_))
              (try simp only [← hl6_2])
              go_roundg k2
              case measure => have := HJ2.out; have := HK2.out; omega
              case rel => exact ⟨(y191), (wrap64 (x28_2 + 1)), (by xrs_), H', ⟨by have := HJ2.out; have := HK2.out; omega⟩, ⟨by (try simp only [hl6_2]); xkR_; exact HO_6.out⟩, ⟨by repeat (first | (with_reducible first | exact HB.out | apply below_alloc | apply pw_below_drewN | apply below_drew1) | exact HB.out)⟩⟩
             ·rw [if_neg c21] at H
              exact absurd H (by simp)
            ·rw [if_neg c20] at H
             exact absurd H (by simp)
           ·rw [if_neg c18] at H
            exact absurd H (by simp)
          ·rw [if_neg c16] at H
           exact absurd H (by simp)
         ·rw [if_neg c15] at H
          exact absurd H (by simp)
        ·rw [if_neg c13] at H
         have c13b0 : decide (x28_2 < (y187.length : Int)) = false := decide_eq_false c13
         (try (have c13b0_hl6_2 := c13b0; rw [hl6_2] at c13b0_hl6_2))
         clear c13
         replace H := Option.bind_eq_some_iff.mp H
         obtain ⟨t192, A250, H⟩ := H
         replace H : ((slices_Equal_byte_byte.f k2 t192 l0).bind fun t195 => (if t195 = true then (some (x6_2, true)) else (some (([] : List Bool), false)))) = some (r1, r2) := H
         have A25 := Aside0.mk A250
         clear A250
         replace H := Option.bind_eq_some_iff.mp H
         obtain ⟨t195, A260, H⟩ := H
         replace H : (if t195 = true then (some (x6_2, true)) else (some (([] : List Bool), false))) = some (r1, r2) := H
         have A26 := Aside0.mk A260
         clear A260
         by_cases c27 : t195 = true
         ·subst c27
          have H1 : (some (x6_2, true)) = some (r1, r2) := by rw [if_pos rfl] at H; exact H
          clear H
          have H := H1
          clear H1
          simp only [Option.some.injEq, Prod.mk.injEq] at H
          obtain ⟨rfl, rfl⟩ := H
          go_wp2_with (first | ((with_reducible refine gate_callee (f := 28) rfl ?_); refine goesL_ (some 46) rfl rfl Try.func28 (by kernel_rfl) rfl #[.slice Ao12 x6_2.length co12] rfl (by xlm_) ?_; (with_reducible refine (pack_Bits.calls k2 _ _ x6_2 t192 _ ?side1 ?side2 A25.out).mono ?_); (case side1 => repeat (first | exact (Kd.R_reads' HO_6.out).2.2 | xkC_)); (case side2 => exact (Kd.R_reads' HO_6.out).2.1); rintro e w28 ⟨v193, rfl, ho0, hb⟩; refine ⟨_, rfl, ?_⟩; have n0_ := Aside0.mk (Kd.R_below (by xkR_; exact HO_6.out) hb); have n1_ := Aside0.mk (Kd.R_lower ho0 (below_size (by repeat (first | (with_reducible first | exact HB.out | apply below_alloc | apply pw_below_drewN | apply below_drew1) | exact HB.out)))); have n2_ := Aside0.mk (below_step (by repeat (first | (with_reducible first | exact HB.out | apply below_alloc | apply pw_below_drewN | apply below_drew1) | exact HB.out)) hb); clear HO_6; clear HB; have HO_6 := n0_; have HO194 := n1_; have HB := n2_; clear n0_ n1_ n2_; (try clear hb); (try clear hb2); (try clear hk); (try clear hi); (try clear ho0); obtain ⟨Ao29, co29, eo29⟩ := Kd.R_slice HO194.out; subst eo29) | ((with_reducible refine gate_callee (f := 51) rfl ?_); refine goesL_ (some 48) rfl rfl Try.func51 (by kernel_rfl) rfl #[.slice Ao29 t192.length co29, .slice A0 l0.length c0] rfl (by xlm_) ?_; (with_reducible refine (slices_Equal_byte_byte.calls k2 _ _ t192 _ _ l0 true _ ?side1 ?side2 ?side3 ?side4 A26.out).mono ?_); (case side1 => repeat (first | exact (Kd.R_reads' HO194.out).2.2 | xkC_)); (case side2 => exact (Kd.R_reads' HO194.out).2.1); (case side3 => repeat (first | exact (Kd.C_below HR0.out HB.out) | xkC_)); (case side4 => exact HC0.out); rintro e w' ⟨rfl, ⟨nd, rfl⟩⟩; refine ⟨_, rfl, ?_⟩))
          go_ret2
          exact ⟨_, by first | rfl | (simp [errW_none, errW_some] <;> rfl) | (simp [*, errW_none, errW_some] <;> rfl), by xkR_; exact HO_6.out, by repeat (first | (with_reducible first | exact HB.out | apply below_alloc | apply pw_below_drewN | apply below_drew1) | exact HB.out)⟩
         ·replace c27 := Bool.eq_false_iff.mpr c27
          subst c27
          have H1 : (some (([] : List Bool), false)) = some (r1, r2) := by rw [if_neg (show ¬ (false = true) by decide)] at H; exact H
          clear H
          have H := H1
          clear H1
          simp only [Option.some.injEq, Prod.mk.injEq] at H
          obtain ⟨rfl, rfl⟩ := H
          go_wp2_with (first | ((with_reducible refine gate_callee (f := 28) rfl ?_); refine goesL_ (some 46) rfl rfl Try.func28 (by kernel_rfl) rfl #[.slice Ao12 x6_2.length co12] rfl (by xlm_) ?_; (with_reducible refine (pack_Bits.calls k2 _ _ x6_2 t192 _ ?side1 ?side2 A25.out).mono ?_); (case side1 => repeat (first | exact (Kd.R_reads' HO_6.out).2.2 | xkC_)); (case side2 => exact (Kd.R_reads' HO_6.out).2.1); rintro e w30 ⟨v193, rfl, ho0, hb⟩; refine ⟨_, rfl, ?_⟩; have n0_ := Aside0.mk (Kd.R_below (by xkR_; exact HO_6.out) hb); have n1_ := Aside0.mk (Kd.R_lower ho0 (below_size (by repeat (first | (with_reducible first | exact HB.out | apply below_alloc | apply pw_below_drewN | apply below_drew1) | exact HB.out)))); have n2_ := Aside0.mk (below_step (by repeat (first | (with_reducible first | exact HB.out | apply below_alloc | apply pw_below_drewN | apply below_drew1) | exact HB.out)) hb); clear HO_6; clear HB; have HO_6 := n0_; have HO194 := n1_; have HB := n2_; clear n0_ n1_ n2_; (try clear hb); (try clear hb2); (try clear hk); (try clear hi); (try clear ho0); obtain ⟨Ao31, co31, eo31⟩ := Kd.R_slice HO194.out; subst eo31) | ((with_reducible refine gate_callee (f := 51) rfl ?_); refine goesL_ (some 48) rfl rfl Try.func51 (by kernel_rfl) rfl #[.slice Ao31 t192.length co31, .slice A0 l0.length c0] rfl (by xlm_) ?_; (with_reducible refine (slices_Equal_byte_byte.calls k2 _ _ t192 _ _ l0 false _ ?side1 ?side2 ?side3 ?side4 A26.out).mono ?_); (case side1 => repeat (first | exact (Kd.R_reads' HO194.out).2.2 | xkC_)); (case side2 => exact (Kd.R_reads' HO194.out).2.1); (case side3 => repeat (first | exact (Kd.C_below HR0.out HB.out) | xkC_)); (case side4 => exact HC0.out); rintro e w' ⟨rfl, ⟨nd, rfl⟩⟩; refine ⟨_, rfl, ?_⟩))
          go_ret2
          exact ⟨_, by first | rfl | (simp [errW_none, errW_some] <;> rfl) | (simp [*, errW_none, errW_some] <;> rfl), by xni_, by repeat (first | (with_reducible first | exact HB.out | apply below_alloc | apply pw_below_drewN | apply below_drew1) | exact HB.out)⟩
     ·rw [if_neg c9] at H
      exact absurd H (by simp)
    ·rw [if_neg c8] at H
     exact absurd H (by simp)
end Go.Proofs.Ytpcbhghgommijaa.X
end
section
namespace Go.Proofs.Ytpcbhghgommijaa.X
open Go.RowKit Go.Proofs.YtpcbhghgommijaaW.PrintWords Go.Proofs.YtpcbhghgommijaaW.PrintLast Go.Proofs.YtpcbhghgommijaaW.PrintMore
attribute [local go_sem] max2_int min2_int max_two min_two max_three min_three max_four min_four
set_option linter.unusedVariables false
set_option linter.unusedSimpArgs false
open Go.Proofs.Ytpcbhghgommijaa.XMac
mutual
def table_Decode.j0 : Nat → List Int → Int → Int → Bool → Int → Option (Int × (List (S52)) × (List (List Int)) × List Bool × Int)
 | 0, _, _, _, _, _ => none
 | k + 1, x0, x5, x6, x69, x212000 => if x69 = true then (some (0, ([] : List (S52)), ([] : List (List Int)), ([] : List Bool), 24)) else (table_Decode.l0 k x0 x5 7 x6 0 x212000 ([] : List (S52)))
def table_Decode.l0 : Nat → List Int → Int → Int → Int → Int → Int → List (S52) → Option (Int × (List (S52)) × (List (List Int)) × List Bool × Int)
 | 0, _, _, _, _, _, _, _ => none
 | k + 1, x0, x5, x7, x71, x72, x212000, x212001 => if x72 < x71 then ((pack_Get.f k x0 x7 3).bind fun bt218 => (if 0 ≤ (wrap64 (x7 + 3)) then (if (wrap64 (x7 + 3)) < (x0.length : Int) then (if x212001.length < 8796093022208 then (table_Decode.l0 k x0 x5 (wrap64 (x7 + 4)) x71 (wrap64 (x72 + 1)) x212000 (x212001 ++ [(⟨bt218.1, wrap64 (rd x0 (wrap64 (x7 + 3)))⟩ : S52)])) else (none)) else (none)) else (none))) else (table_Decode.l1 k x0 x5 x7 x5 0 x212000 x212001 ([] : List (List Int)))
def table_Decode.l1 : Nat → List Int → Int → Int → Int → Int → Int → List (S52) → List (List Int) → Option (Int × (List (S52)) × (List (List Int)) × List Bool × Int)
 | 0, _, _, _, _, _, _, _, _ => none
 | k + 1, x0, x5, x7, x96, x97, x212000, x212001, x212002 => if x97 < x96 then (if 0 ≤ x7 then (if x7 ≤ (wrap64 (x7 + x212000)) then (if (wrap64 (x7 + x212000)) ≤ (x0.length : Int) then ((some ((x0.take ((wrap64 (x7 + x212000)) : Int).toNat).drop (x7 : Int).toNat : List Int)).bind fun y232 => (table_Decode.l2 k x0 x5 x7 ([] : List Int) x96 x97 y232 (y232.length : Int) 0 x212000 x212001 x212002)) else (none)) else (none)) else (none)) else (if 0 ≤ x7 then (if x7 ≤ (wrap64 ((x0.length : Int) - 4)) then (if (wrap64 ((x0.length : Int) - 4)) ≤ (x0.length : Int) then ((pack_Unbits.f k ((x0.take ((wrap64 ((x0.length : Int) - 4)) : Int).toNat).drop (x7 : Int).toNat) x5).bind fun bt228 => (if bt228.2 = true then (some (x212000, x212001, x212002, bt228.1, 0)) else (some (0, ([] : List (S52)), ([] : List (List Int)), ([] : List Bool), 25)))) else (none)) else (none)) else (none))
def table_Decode.l2 : Nat → List Int → Int → Int → List Int → Int → Int → List Int → Int → Int → Int → List (S52) → List (List Int) → Option (Int × (List (S52)) × (List (List Int)) × List Bool × Int)
 | 0, _, _, _, _, _, _, _, _, _, _, _, _ => none
 | k + 1, x0, x5, x7, x10, x96, x97, x105, x106, x107, x212000, x212001, x212002 => if x107 < x106 then (if 0 ≤ x107 then (if x107 < (x105.length : Int) then (if x10.length < 17592186044416 then (table_Decode.l2 k x0 x5 x7 (x10 ++ [wrap64 (rd x105 x107)]) x96 x97 x105 x106 (wrap64 (x107 + 1)) x212000 x212001 x212002) else (none)) else (none)) else (none)) else (if x212002.length < 5864062014805 then (table_Decode.l1 k x0 x5 (wrap64 (x7 + x212000)) x96 (wrap64 (x97 + 1)) x212000 x212001 (x212002 ++ [x10])) else (none))
end
def table_Decode.f (k : Nat) (l0 : List Int) : Option (Int × (List (S52)) × (List (List Int)) × List Bool × Int) := if (l0.length : Int) < 11 then (some (0, ([] : List (S52)), ([] : List (List Int)), ([] : List Bool), 21)) else (if 4 ≤ (l0.length : Int) then ((some (l0.take 4 : List Int)).bind fun y197 => (if 0 < (y197.length : Int) then (if 1 < (y197.length : Int) then (if 2 < (y197.length : Int) then (if 3 < (y197.length : Int) then ((table_known.f).bind fun bt205 => (if (rd y197 0) = bt205.1 then (if (rd y197 1) = bt205.2.1 then (if (rd y197 2) = bt205.2.2.1 then (if (rd y197 3) = bt205.2.2.2 then ((table_sealed.f k l0).bind fun t209 => (if t209 = true then (if 4 < (l0.length : Int) then (if 5 < (l0.length : Int) then (if 6 < (l0.length : Int) then ((table_between.f (wrap64 (rd l0 4)) 1 8).bind fun t214 => (if t214 = true then ((table_between.f (wrap64 (rd l0 5)) 1 5).bind fun t215 => (if t215 = true then ((table_between.f (wrap64 (rd l0 6)) 1 60).bind fun t216 => (if t216 = true then ((table_Length.f (wrap64 (rd l0 4)) (wrap64 (rd l0 5)) (wrap64 (rd l0 6))).bind fun t217 => (table_Decode.j0 k l0 (wrap64 (rd l0 5)) (wrap64 (rd l0 6)) (t217 != (l0.length : Int)) (wrap64 (rd l0 4)))) else (table_Decode.j0 k l0 (wrap64 (rd l0 5)) (wrap64 (rd l0 6)) true (wrap64 (rd l0 4))))) else (table_Decode.j0 k l0 (wrap64 (rd l0 5)) (wrap64 (rd l0 6)) true (wrap64 (rd l0 4))))) else (table_Decode.j0 k l0 (wrap64 (rd l0 5)) (wrap64 (rd l0 6)) true (wrap64 (rd l0 4))))) else (none)) else (none)) else (none)) else (some (0, ([] : List (S52)), ([] : List (List Int)), ([] : List Bool), 23)))) else (some (0, ([] : List (S52)), ([] : List (List Int)), ([] : List Bool), 22))) else (some (0, ([] : List (S52)), ([] : List (List Int)), ([] : List Bool), 22))) else (some (0, ([] : List (S52)), ([] : List (List Int)), ([] : List Bool), 22))) else (some (0, ([] : List (S52)), ([] : List (List Int)), ([] : List Bool), 22)))) else (none)) else (none)) else (none)) else (none))) else (none))
theorem table_Decode.mono_l : ∀ k, (∀ y0 y1 y2 y3 y4, LeO (table_Decode.j0 k y0 y1 y2 y3 y4) (table_Decode.j0 (k + 1) y0 y1 y2 y3 y4)) ∧ (∀ y0 y1 y2 y3 y4 y5 y6, LeO (table_Decode.l0 k y0 y1 y2 y3 y4 y5 y6) (table_Decode.l0 (k + 1) y0 y1 y2 y3 y4 y5 y6)) ∧ (∀ y0 y1 y2 y3 y4 y5 y6 y7, LeO (table_Decode.l1 k y0 y1 y2 y3 y4 y5 y6 y7) (table_Decode.l1 (k + 1) y0 y1 y2 y3 y4 y5 y6 y7)) ∧ (∀ y0 y1 y2 y3 y4 y5 y6 y7 y8 y9 y10 y11, LeO (table_Decode.l2 k y0 y1 y2 y3 y4 y5 y6 y7 y8 y9 y10 y11) (table_Decode.l2 (k + 1) y0 y1 y2 y3 y4 y5 y6 y7 y8 y9 y10 y11))
 | 0 => ⟨fun _ _ _ _ _ r h => by simp [table_Decode.j0] at h, fun _ _ _ _ _ _ _ r h => by simp [table_Decode.l0] at h, fun _ _ _ _ _ _ _ _ r h => by simp [table_Decode.l1] at h, fun _ _ _ _ _ _ _ _ _ _ _ _ r h => by simp [table_Decode.l2] at h⟩
 | k + 1 => by
  obtain ⟨ih0, ih1, ih2, ih3⟩ := table_Decode.mono_l k
  refine ⟨?_, ?_, ?_, ?_⟩
  ·intro y0 y1 y2 y3 y4
   unfold table_Decode.j0
   repeat' first
   | (with_reducible exact ih0 _ _ _ _ _)
   | (with_reducible exact ih1 _ _ _ _ _ _ _)
   | (with_reducible exact ih2 _ _ _ _ _ _ _ _)
   | (with_reducible exact ih3 _ _ _ _ _ _ _ _ _ _ _ _)
   | (with_reducible exact pack_Get.mono _ _ _ _)
   | (with_reducible exact pack_Unbits.mono _ _ _)
   | (with_reducible exact table_sealed.mono _ _)
   | (with_reducible exact LeO.refl _)
   | (with_reducible exact LeO.none _)
   | (with_reducible refine LeO.ite ?_ ?_)
   | (with_reducible refine LeO.bind ?_ (fun _ => ?_))
   | exact ih0 _ _ _ _ _
   | exact ih1 _ _ _ _ _ _ _
   | exact ih2 _ _ _ _ _ _ _ _
   | exact ih3 _ _ _ _ _ _ _ _ _ _ _ _
   | exact pack_Get.mono _ _ _ _
   | exact pack_Unbits.mono _ _ _
   | exact table_sealed.mono _ _
   | exact LeO.none _
   | refine LeO.ite ?_ ?_
   | refine LeO.bind ?_ (fun _ => ?_)
  ·intro y0 y1 y2 y3 y4 y5 y6
   unfold table_Decode.l0
   repeat' first
   | (with_reducible exact ih0 _ _ _ _ _)
   | (with_reducible exact ih1 _ _ _ _ _ _ _)
   | (with_reducible exact ih2 _ _ _ _ _ _ _ _)
   | (with_reducible exact ih3 _ _ _ _ _ _ _ _ _ _ _ _)
   | (with_reducible exact pack_Get.mono _ _ _ _)
   | (with_reducible exact pack_Unbits.mono _ _ _)
   | (with_reducible exact table_sealed.mono _ _)
   | (with_reducible exact LeO.refl _)
   | (with_reducible exact LeO.none _)
   | (with_reducible refine LeO.ite ?_ ?_)
   | (with_reducible refine LeO.bind ?_ (fun _ => ?_))
   | exact ih0 _ _ _ _ _
   | exact ih1 _ _ _ _ _ _ _
   | exact ih2 _ _ _ _ _ _ _ _
   | exact ih3 _ _ _ _ _ _ _ _ _ _ _ _
   | exact pack_Get.mono _ _ _ _
   | exact pack_Unbits.mono _ _ _
   | exact table_sealed.mono _ _
   | exact LeO.none _
   | refine LeO.ite ?_ ?_
   | refine LeO.bind ?_ (fun _ => ?_)
  ·intro y0 y1 y2 y3 y4 y5 y6 y7
   unfold table_Decode.l1
   repeat' first
   | (with_reducible exact ih0 _ _ _ _ _)
   | (with_reducible exact ih1 _ _ _ _ _ _ _)
   | (with_reducible exact ih2 _ _ _ _ _ _ _ _)
   | (with_reducible exact ih3 _ _ _ _ _ _ _ _ _ _ _ _)
   | (with_reducible exact pack_Get.mono _ _ _ _)
   | (with_reducible exact pack_Unbits.mono _ _ _)
   | (with_reducible exact table_sealed.mono _ _)
   | (with_reducible exact LeO.refl _)
   | (with_reducible exact LeO.none _)
   | (with_reducible refine LeO.ite ?_ ?_)
   | (with_reducible refine LeO.bind ?_ (fun _ => ?_))
   | exact ih0 _ _ _ _ _
   | exact ih1 _ _ _ _ _ _ _
   | exact ih2 _ _ _ _ _ _ _ _
   | exact ih3 _ _ _ _ _ _ _ _ _ _ _ _
   | exact pack_Get.mono _ _ _ _
   | exact pack_Unbits.mono _ _ _
   | exact table_sealed.mono _ _
   | exact LeO.none _
   | refine LeO.ite ?_ ?_
   | refine LeO.bind ?_ (fun _ => ?_)
  ·intro y0 y1 y2 y3 y4 y5 y6 y7 y8 y9 y10 y11
   unfold table_Decode.l2
   repeat' first
   | (with_reducible exact ih0 _ _ _ _ _)
   | (with_reducible exact ih1 _ _ _ _ _ _ _)
   | (with_reducible exact ih2 _ _ _ _ _ _ _ _)
   | (with_reducible exact ih3 _ _ _ _ _ _ _ _ _ _ _ _)
   | (with_reducible exact pack_Get.mono _ _ _ _)
   | (with_reducible exact pack_Unbits.mono _ _ _)
   | (with_reducible exact table_sealed.mono _ _)
   | (with_reducible exact LeO.refl _)
   | (with_reducible exact LeO.none _)
   | (with_reducible refine LeO.ite ?_ ?_)
   | (with_reducible refine LeO.bind ?_ (fun _ => ?_))
   | exact ih0 _ _ _ _ _
   | exact ih1 _ _ _ _ _ _ _
   | exact ih2 _ _ _ _ _ _ _ _
   | exact ih3 _ _ _ _ _ _ _ _ _ _ _ _
   | exact pack_Get.mono _ _ _ _
   | exact pack_Unbits.mono _ _ _
   | exact table_sealed.mono _ _
   | exact LeO.none _
   | refine LeO.ite ?_ ?_
   | refine LeO.bind ?_ (fun _ => ?_)
theorem table_Decode.mono : ∀ a0 k, LeO (table_Decode.f k a0) (table_Decode.f (k + 1) a0) := by
 intro a0 k
 obtain ⟨ih0, ih1, ih2, ih3⟩ := table_Decode.mono_l k
 unfold table_Decode.f
 repeat' first
   | (with_reducible exact ih0 _ _ _ _ _)
   | (with_reducible exact ih1 _ _ _ _ _ _ _)
   | (with_reducible exact ih2 _ _ _ _ _ _ _ _)
   | (with_reducible exact ih3 _ _ _ _ _ _ _ _ _ _ _ _)
   | (with_reducible exact pack_Get.mono _ _ _ _)
   | (with_reducible exact pack_Unbits.mono _ _ _)
   | (with_reducible exact table_sealed.mono _ _)
   | (with_reducible exact LeO.refl _)
   | (with_reducible exact LeO.none _)
   | (with_reducible refine LeO.ite ?_ ?_)
   | (with_reducible refine LeO.bind ?_ (fun _ => ?_))
   | exact ih0 _ _ _ _ _
   | exact ih1 _ _ _ _ _ _ _
   | exact ih2 _ _ _ _ _ _ _ _
   | exact ih3 _ _ _ _ _ _ _ _ _ _ _ _
   | exact pack_Get.mono _ _ _ _
   | exact pack_Unbits.mono _ _ _
   | exact table_sealed.mono _ _
   | exact LeO.none _
   | refine LeO.ite ?_ ?_
   | refine LeO.bind ?_ (fun _ => ?_)
def table_Decode.T8 : Bool × List (List Nat × List Nat) := (true, [([], []), ([0], [0]), ([1], [1]), ([2], [2]), ([], []), ([4], [4]), ([5], [5]), ([6], [6]), ([3, 0, 1, 2, 3], [3]), ([7, 8, 0, 1, 2, 3, 4, 5, 6, 7, 8], [7])])
def table_Decode.B8 : List Nat := [0, 1, 3, 7, 0, 16, 48, 112, 15, 511]
theorem table_Decode.tab8 : rtab .any (opsOf Try.f14 8) = table_Decode.T8 := by kernel_rfl
theorem table_Decode.bits8 : waitsOk table_Decode.T8.2 table_Decode.B8 = true := by kernel_rfl
def table_Decode.T15 : Bool × List (List Nat × List Nat) := (true, [([], []), ([0], [0]), ([], []), ([], []), ([], []), ([4], [4]), ([3, 5], [3, 5]), ([6], [6]), ([7], [7]), ([2, 8], [2, 8]), ([9], [9]), ([1, 10], [1, 10]), ([0, 1, 2, 3, 4, 5, 6, 7, 8, 9, 10, 11], []), ([12, 11, 11, 0, 1, 2, 3, 4, 5, 6, 7, 8, 9, 10, 11], [11, 12])])
def table_Decode.B15 : List Nat := [0, 1, 0, 0, 0, 16, 56, 120, 248, 508, 1020, 2047, 4095, 8191]
theorem table_Decode.tab15 : rtab .any (opsOf Try.f14 15) = table_Decode.T15 := by kernel_rfl
theorem table_Decode.bits15 : waitsOk table_Decode.T15.2 table_Decode.B15 = true := by kernel_rfl
set_option maxHeartbeats 8000000 in
set_option maxRecDepth 100000 in
theorem table_Decode.calls (k : Nat) (A0 : Option Addr) (c0 : Nat) (l0 : List Int) (r1 : Int) (r2 : List (S52)) (r3 : List (List Int)) (r4 : List Bool) (r5 : Int) (w : World) (hr0 : Kd.C (Kd.int .u8) w A0 l0.length l0) (hc0 : l0.length ≤ c0) (h : table_Decode.f k l0 = some (r1, r2, r3, r4, r5)) :
  Calls Try.prog 14 #[.slice A0 l0.length c0] w fun e w' => ∃ v1_ v2_ v3_ : Value, e = .returned (.tuple #[.agg #[.int .i64 r1, v1_, v2_, v3_], .int .i64 r5]) ∧ Kd.R k52 52 w' w.heap.size (fun _ => True) v1_ r2 ∧ Kd.S (Kd.slice 3 (Kd.int .i64)) 53 w' w.heap.size (fun _ => True) v2_ r3 ∧ Kd.R Kd.bool 4 w' w.heap.size (fun _ => True) v3_ r4 ∧ Below w.heap.size w w' := by
 have hu26 := Try.underlying26
 have hu61 := Try.underlying61
 have hu52 := Try.underlying52
 have HR0 := Aside0.mk hr0
 have HC0 := Aside0.mk hc0
 clear hr0 hc0
 have HB := Aside0.mk (Below.refl w.heap.size w)
 have H : (if (l0.length : Int) < 11 then (some (0, ([] : List (S52)), ([] : List (List Int)), ([] : List Bool), 21)) else (if 4 ≤ (l0.length : Int) then ((some (l0.take 4 : List Int)).bind fun y197 => (if 0 < (y197.length : Int) then (if 1 < (y197.length : Int) then (if 2 < (y197.length : Int) then (if 3 < (y197.length : Int) then ((table_known.f).bind fun bt205 => (if (rd y197 0) = bt205.1 then (if (rd y197 1) = bt205.2.1 then (if (rd y197 2) = bt205.2.2.1 then (if (rd y197 3) = bt205.2.2.2 then ((table_sealed.f k l0).bind fun t209 => (if t209 = true then (if 4 < (l0.length : Int) then (if 5 < (l0.length : Int) then (if 6 < (l0.length : Int) then ((table_between.f (wrap64 (rd l0 4)) 1 8).bind fun t214 => (if t214 = true then ((table_between.f (wrap64 (rd l0 5)) 1 5).bind fun t215 => (if t215 = true then ((table_between.f (wrap64 (rd l0 6)) 1 60).bind fun t216 => (if t216 = true then ((table_Length.f (wrap64 (rd l0 4)) (wrap64 (rd l0 5)) (wrap64 (rd l0 6))).bind fun t217 => (table_Decode.j0 k l0 (wrap64 (rd l0 5)) (wrap64 (rd l0 6)) (t217 != (l0.length : Int)) (wrap64 (rd l0 4)))) else (table_Decode.j0 k l0 (wrap64 (rd l0 5)) (wrap64 (rd l0 6)) true (wrap64 (rd l0 4))))) else (table_Decode.j0 k l0 (wrap64 (rd l0 5)) (wrap64 (rd l0 6)) true (wrap64 (rd l0 4))))) else (table_Decode.j0 k l0 (wrap64 (rd l0 5)) (wrap64 (rd l0 6)) true (wrap64 (rd l0 4))))) else (none)) else (none)) else (none)) else (some (0, ([] : List (S52)), ([] : List (List Int)), ([] : List Bool), 23)))) else (some (0, ([] : List (S52)), ([] : List (List Int)), ([] : List Bool), 22))) else (some (0, ([] : List (S52)), ([] : List (List Int)), ([] : List Bool), 22))) else (some (0, ([] : List (S52)), ([] : List (List Int)), ([] : List Bool), 22))) else (some (0, ([] : List (S52)), ([] : List (List Int)), ([] : List Bool), 22)))) else (none)) else (none)) else (none)) else (none))) else (none))) = some (r1, r2, r3, r4, r5) := h
 clear h
 by_cases c2 : (l0.length : Int) < 11
 ·rw [if_pos c2] at H
  have c2b0 : decide ((l0.length : Int) < 11) = true := decide_eq_true c2
  have c2b1 : decide (l0.length < 11) = true := decide_eq_true (by omega)
  clear c2
  simp only [Option.some.injEq, Prod.mk.injEq] at H
  obtain ⟨rfl, rfl, rfl, rfl, rfl⟩ := H
  go_enter Try.func14, Try.ntmps14
  go_wp2_with (first | ((with_reducible refine gate_dst (N := 2) rfl ?_); xgg_; refine box_event ?hg (N := 2) ?hd (cs := #[.int .i64 0, .slice none 0 0, .slice none 0 0, .slice none 0 0]) (t := 26) ?hr ?_; (case hd => rfl); (case hg => rfl); (case hr => xgs_); intro gb196 hg w3 hbox hb; have n0_ := Aside0.mk (below_step (by repeat (first | (with_reducible first | exact HB.out | apply below_alloc | apply pw_below_drewN | apply below_drew1) | exact HB.out)) hb); have n1_ := Aside0.mk (hbox); have n2_ := Aside0.mk ((by rw [hg]; exact (below_size (by repeat (first | (with_reducible first | exact HB.out | apply below_alloc | apply pw_below_drewN | apply below_drew1) | exact HB.out))) : w.heap.size ≤ gb196)); have n3_ := Aside0.mk ((by rw [hg]; exact (below_size (by repeat (first | (with_reducible first | exact HB.out | apply below_alloc | apply pw_below_drewN | apply below_drew1) | exact HB.out))) : w.heap.size ≤ gb196)); clear HB; have HB := n0_; have BK196 := n1_; have GW196 := n2_; have GE196 := n3_; clear n0_ n1_ n2_ n3_; clear hb hbox hg; have hcz4_0 : w3.cell? ⟨gb196, 0, none⟩ = some (.int .i64 0) := (blk_cell BK196.out 0).trans rfl; have hcz4_1 : w3.cell? ⟨gb196, 1, none⟩ = some (.slice none 0 0) := (blk_cell BK196.out 1).trans rfl; have hcz4_2 : w3.cell? ⟨gb196, 2, none⟩ = some (.slice none 0 0) := (blk_cell BK196.out 2).trans rfl; have hcz4_3 : w3.cell? ⟨gb196, 3, none⟩ = some (.slice none 0 0) := (blk_cell BK196.out 3).trans rfl; have hfz4_0 := blk_frozen BK196.out 0; have hfz4_1 := blk_frozen BK196.out 1; have hfz4_2 := blk_frozen BK196.out 2; have hfz4_3 := blk_frozen BK196.out 3))
  refine bodyPost_ret (results_ct rfl _ _ gb196 26 #[.int .i64 0, .slice none 0 0, .slice none 0 0, .slice none 0 0] (0, 0) _ rfl (by xkb_; refine blk_put (cs := #[.int .i64 0, .slice none 0 0, .slice none 0 0, .slice none 0 0]) ?_ 3 _ rfl; xkb_; refine blk_put (cs := #[.int .i64 0, .slice none 0 0, .slice none 0 0, .slice none 0 0]) ?_ 2 _ rfl; xkb_; refine blk_put (cs := #[.int .i64 0, .slice none 0 0, .slice none 0 0, .slice none 0 0]) ?_ 1 _ rfl; xkb_; refine blk_put (cs := #[.int .i64 0, .slice none 0 0, .slice none 0 0, .slice none 0 0]) ?_ 0 _ rfl; xkb_; exact BK196.out) Try.underlying26 rfl (by kernel_rfl)) rfl ?_
  exact ⟨_, _, _, by first | rfl | (simp [errW_none, errW_some] <;> rfl) | (simp [*, errW_none, errW_some] <;> rfl), by xni_, by first | exact Kd.S_nil _ _ _ _ _ | exact Kd.N_nil _ _ _ _ _ | exact Kd.V_nil _ _ _ _ _ | exact Kd.Q_nil _ _ _ _ _ | exact Kd.R_nil _ _ _ _ _, by xni_, by repeat (first | (with_reducible first | exact HB.out | apply below_alloc | apply pw_below_drewN | apply below_drew1 | refine below_set ?_ GE196.out) | exact HB.out)⟩
 ·rw [if_neg c2] at H
  have c2b0 : decide ((l0.length : Int) < 11) = false := decide_eq_false c2
  have c2b1 : decide (l0.length < 11) = false := decide_eq_false (by omega)
  clear c2
  by_cases c5 : 4 ≤ (l0.length : Int)
  ·rw [if_pos c5] at H
   have c5b0 := eq_true c5
   have c5b1 : decide (4 ≤ (l0.length : Int)) = true := decide_eq_true c5
   clear c5
   obtain ⟨y197, hy197⟩ : ∃ y_ : List Int, y_ = (l0.take 4) := ⟨_, rfl⟩
   replace H : (if 0 < (y197.length : Int) then (if 1 < (y197.length : Int) then (if 2 < (y197.length : Int) then (if 3 < (y197.length : Int) then ((table_known.f).bind fun bt205 => (if (rd y197 0) = bt205.1 then (if (rd y197 1) = bt205.2.1 then (if (rd y197 2) = bt205.2.2.1 then (if (rd y197 3) = bt205.2.2.2 then ((table_sealed.f k l0).bind fun t209 => (if t209 = true then (if 4 < (l0.length : Int) then (if 5 < (l0.length : Int) then (if 6 < (l0.length : Int) then ((table_between.f (wrap64 (rd l0 4)) 1 8).bind fun t214 => (if t214 = true then ((table_between.f (wrap64 (rd l0 5)) 1 5).bind fun t215 => (if t215 = true then ((table_between.f (wrap64 (rd l0 6)) 1 60).bind fun t216 => (if t216 = true then ((table_Length.f (wrap64 (rd l0 4)) (wrap64 (rd l0 5)) (wrap64 (rd l0 6))).bind fun t217 => (table_Decode.j0 k l0 (wrap64 (rd l0 5)) (wrap64 (rd l0 6)) (t217 != (l0.length : Int)) (wrap64 (rd l0 4)))) else (table_Decode.j0 k l0 (wrap64 (rd l0 5)) (wrap64 (rd l0 6)) true (wrap64 (rd l0 4))))) else (table_Decode.j0 k l0 (wrap64 (rd l0 5)) (wrap64 (rd l0 6)) true (wrap64 (rd l0 4))))) else (table_Decode.j0 k l0 (wrap64 (rd l0 5)) (wrap64 (rd l0 6)) true (wrap64 (rd l0 4))))) else (none)) else (none)) else (none)) else (some (0, ([] : List (S52)), ([] : List (List Int)), ([] : List Bool), 23)))) else (some (0, ([] : List (S52)), ([] : List (List Int)), ([] : List Bool), 22))) else (some (0, ([] : List (S52)), ([] : List (List Int)), ([] : List Bool), 22))) else (some (0, ([] : List (S52)), ([] : List (List Int)), ([] : List Bool), 22))) else (some (0, ([] : List (S52)), ([] : List (List Int)), ([] : List Bool), 22)))) else (none)) else (none)) else (none)) else (none)) = some (r1, r2, r3, r4, r5) := by first | (rw [hy197]; with_reducible exact H) | (have H2_ := (Option.bind_some _ _).symm.trans H; rw [hy197]; with_reducible exact H2_) | (have H2_ := (Option.bind_some _ _).symm.trans H; with_reducible exact H2_) | with_reducible exact H | (rw [hy197]; exact H) | exact H
   have Ny197 := Aside0.mk hy197
   clear hy197
   by_cases c6 : 0 < (y197.length : Int)
   ·rw [if_pos c6] at H
    have c6b0 : decide (0 < (y197.length : Int)) = true := decide_eq_true c6
    have c6b1 : decide (0 < y197.length) = true := decide_eq_true (by omega)
    clear c6
    by_cases c7 : 1 < (y197.length : Int)
    ·rw [if_pos c7] at H
     have c7b0 : decide (1 < (y197.length : Int)) = true := decide_eq_true c7
     have c7b1 : decide (1 < y197.length) = true := decide_eq_true (by omega)
     clear c7
     by_cases c8 : 2 < (y197.length : Int)
     ·rw [if_pos c8] at H
      have c8b0 : decide (2 < (y197.length : Int)) = true := decide_eq_true c8
      have c8b1 : decide (2 < y197.length) = true := decide_eq_true (by omega)
      clear c8
      by_cases c9 : 3 < (y197.length : Int)
      ·rw [if_pos c9] at H
       have c9b0 : decide (3 < (y197.length : Int)) = true := decide_eq_true c9
       have c9b1 : decide (3 < y197.length) = true := decide_eq_true (by omega)
       clear c9
       replace H := Option.bind_eq_some_iff.mp H
       obtain ⟨⟨t205, t206, t207, t208⟩, A100, H⟩ := H
       replace H : (if (rd y197 0) = t205 then (if (rd y197 1) = t206 then (if (rd y197 2) = t207 then (if (rd y197 3) = t208 then ((table_sealed.f k l0).bind fun t209 => (if t209 = true then (if 4 < (l0.length : Int) then (if 5 < (l0.length : Int) then (if 6 < (l0.length : Int) then ((table_between.f (wrap64 (rd l0 4)) 1 8).bind fun t214 => (if t214 = true then ((table_between.f (wrap64 (rd l0 5)) 1 5).bind fun t215 => (if t215 = true then ((table_between.f (wrap64 (rd l0 6)) 1 60).bind fun t216 => (if t216 = true then ((table_Length.f (wrap64 (rd l0 4)) (wrap64 (rd l0 5)) (wrap64 (rd l0 6))).bind fun t217 => (table_Decode.j0 k l0 (wrap64 (rd l0 5)) (wrap64 (rd l0 6)) (t217 != (l0.length : Int)) (wrap64 (rd l0 4)))) else (table_Decode.j0 k l0 (wrap64 (rd l0 5)) (wrap64 (rd l0 6)) true (wrap64 (rd l0 4))))) else (table_Decode.j0 k l0 (wrap64 (rd l0 5)) (wrap64 (rd l0 6)) true (wrap64 (rd l0 4))))) else (table_Decode.j0 k l0 (wrap64 (rd l0 5)) (wrap64 (rd l0 6)) true (wrap64 (rd l0 4))))) else (none)) else (none)) else (none)) else (some (0, ([] : List (S52)), ([] : List (List Int)), ([] : List Bool), 23)))) else (some (0, ([] : List (S52)), ([] : List (List Int)), ([] : List Bool), 22))) else (some (0, ([] : List (S52)), ([] : List (List Int)), ([] : List Bool), 22))) else (some (0, ([] : List (S52)), ([] : List (List Int)), ([] : List Bool), 22))) else (some (0, ([] : List (S52)), ([] : List (List Int)), ([] : List Bool), 22))) = some (r1, r2, r3, r4, r5) := H
       have A10 := Aside0.mk A100
       clear A100
       by_cases c11 : (rd y197 0) = t205
       ·rw [if_pos c11] at H
        have c11b0 : ((rd y197 0) == t205) = true := beq_iff_eq.mpr c11
        have c11b1 : ((rd y197 0) != t205) = false := bne_eq_false_iff_eq.mpr c11
        clear c11
        by_cases c12 : (rd y197 1) = t206
        ·rw [if_pos c12] at H
         have c12b0 : ((rd y197 1) == t206) = true := beq_iff_eq.mpr c12
         have c12b1 : ((rd y197 1) != t206) = false := bne_eq_false_iff_eq.mpr c12
         clear c12
         by_cases c13 : (rd y197 2) = t207
         ·rw [if_pos c13] at H
          have c13b0 : ((rd y197 2) == t207) = true := beq_iff_eq.mpr c13
          have c13b1 : ((rd y197 2) != t207) = false := bne_eq_false_iff_eq.mpr c13
          clear c13
          by_cases c14 : (rd y197 3) = t208
          ·rw [if_pos c14] at H
           have c14b0 : ((rd y197 3) == t208) = true := beq_iff_eq.mpr c14
           have c14b1 : ((rd y197 3) != t208) = false := bne_eq_false_iff_eq.mpr c14
           clear c14
           replace H := Option.bind_eq_some_iff.mp H
           obtain ⟨t209, A150, H⟩ := H
           replace H : (if t209 = true then (if 4 < (l0.length : Int) then (if 5 < (l0.length : Int) then (if 6 < (l0.length : Int) then ((table_between.f (wrap64 (rd l0 4)) 1 8).bind fun t214 => (if t214 = true then ((table_between.f (wrap64 (rd l0 5)) 1 5).bind fun t215 => (if t215 = true then ((table_between.f (wrap64 (rd l0 6)) 1 60).bind fun t216 => (if t216 = true then ((table_Length.f (wrap64 (rd l0 4)) (wrap64 (rd l0 5)) (wrap64 (rd l0 6))).bind fun t217 => (table_Decode.j0 k l0 (wrap64 (rd l0 5)) (wrap64 (rd l0 6)) (t217 != (l0.length : Int)) (wrap64 (rd l0 4)))) else (table_Decode.j0 k l0 (wrap64 (rd l0 5)) (wrap64 (rd l0 6)) true (wrap64 (rd l0 4))))) else (table_Decode.j0 k l0 (wrap64 (rd l0 5)) (wrap64 (rd l0 6)) true (wrap64 (rd l0 4))))) else (table_Decode.j0 k l0 (wrap64 (rd l0 5)) (wrap64 (rd l0 6)) true (wrap64 (rd l0 4))))) else (none)) else (none)) else (none)) else (some (0, ([] : List (S52)), ([] : List (List Int)), ([] : List Bool), 23))) = some (r1, r2, r3, r4, r5) := H
           have A15 := Aside0.mk A150
           clear A150
           by_cases c16 : t209 = true
           ·subst c16
            have H1 : (if 4 < (l0.length : Int) then (if 5 < (l0.length : Int) then (if 6 < (l0.length : Int) then ((table_between.f (wrap64 (rd l0 4)) 1 8).bind fun t214 => (if t214 = true then ((table_between.f (wrap64 (rd l0 5)) 1 5).bind fun t215 => (if t215 = true then ((table_between.f (wrap64 (rd l0 6)) 1 60).bind fun t216 => (if t216 = true then ((table_Length.f (wrap64 (rd l0 4)) (wrap64 (rd l0 5)) (wrap64 (rd l0 6))).bind fun t217 => (table_Decode.j0 k l0 (wrap64 (rd l0 5)) (wrap64 (rd l0 6)) (t217 != (l0.length : Int)) (wrap64 (rd l0 4)))) else (table_Decode.j0 k l0 (wrap64 (rd l0 5)) (wrap64 (rd l0 6)) true (wrap64 (rd l0 4))))) else (table_Decode.j0 k l0 (wrap64 (rd l0 5)) (wrap64 (rd l0 6)) true (wrap64 (rd l0 4))))) else (table_Decode.j0 k l0 (wrap64 (rd l0 5)) (wrap64 (rd l0 6)) true (wrap64 (rd l0 4))))) else (none)) else (none)) else (none)) = some (r1, r2, r3, r4, r5) := by rw [if_pos rfl] at H; exact H
            clear H
            have H := H1
            clear H1
            by_cases c17 : 4 < (l0.length : Int)
            ·rw [if_pos c17] at H
             have c17b0 : decide (4 < (l0.length : Int)) = true := decide_eq_true c17
             have c17b1 : decide (4 < l0.length) = true := decide_eq_true (by omega)
             clear c17
             by_cases c18 : 5 < (l0.length : Int)
             ·rw [if_pos c18] at H
              have c18b0 : decide (5 < (l0.length : Int)) = true := decide_eq_true c18
              have c18b1 : decide (5 < l0.length) = true := decide_eq_true (by omega)
              clear c18
              by_cases c19 : 6 < (l0.length : Int)
              ·rw [if_pos c19] at H
               have c19b0 : decide (6 < (l0.length : Int)) = true := decide_eq_true c19
               have c19b1 : decide (6 < l0.length) = true := decide_eq_true (by omega)
               clear c19
               have HC20 := Aside0.mk H
               clear H
               go_enter Try.func14, Try.ntmps14
               try go_wp2_with (first | ((with_reducible refine gate_dst (N := 2) rfl ?_); xgg_; refine box_event ?hg (N := 2) ?hd (cs := #[.int .i64 0, .slice none 0 0, .slice none 0 0, .slice none 0 0]) (t := 26) ?hr ?_; (case hd => rfl); (case hg => rfl); (case hr => xgs_); intro gb196 hg w21 hbox hb; have n0_ := Aside0.mk (below_step (by repeat (first | (with_reducible first | exact HB.out | apply below_alloc | apply pw_below_drewN | apply below_drew1) | exact HB.out)) hb); have n1_ := Aside0.mk (hbox); have n2_ := Aside0.mk ((by rw [hg]; exact (below_size (by repeat (first | (with_reducible first | exact HB.out | apply below_alloc | apply pw_below_drewN | apply below_drew1) | exact HB.out))) : w.heap.size ≤ gb196)); have n3_ := Aside0.mk ((by rw [hg]; exact (below_size (by repeat (first | (with_reducible first | exact HB.out | apply below_alloc | apply pw_below_drewN | apply below_drew1) | exact HB.out))) : w.heap.size ≤ gb196)); clear HB; have HB := n0_; have BK196 := n1_; have GW196 := n2_; have GE196 := n3_; clear n0_ n1_ n2_ n3_; clear hb hbox hg))
               have n0_ := Aside0.mk (blk_drew BK196.out)
               have n1_ := Aside0.mk (below_drew1 HB.out)
               clear BK196
               clear HB
               have BK196 := n0_
               have HB := n1_
               clear n0_ n1_
               have q23 : (4 : Int) ≤ ((l0.length : Int) : Int) := of_decide_eq_true (by xas_)
               obtain ⟨i023, hi023, _, hsz23, _⟩ := info_parts info5
               have hroom23 : l0.length ≤ c0 := HC0.out
               have hC23 : Kd.C (Kd.int .u8) _ A0 l0.length l0 := HR0.out
               have hcut23 := cut_to (P := Try.prog) 27 5 .i64 Try.underlying27 hi023 A0 l0.length c0 4 (by omega) q23 hroom23
               have hr23 := Kd.C_take (m := 4) hC23 (by omega)
               have hy23 : y197.length = (4 : Int).toNat := (by rw [Ny197.out, List.length_take]; omega)
               rw [← Ny197.out] at hr23
               rw [← hy23] at hcut23
               have HR200 := Aside0.mk hr23
               have HC200 := Aside0.mk (show y197.length ≤ c0 from by omega)
               clear hr23 hC23 hroom23 hi023 hsz23
               have KY23 := Aside0.mk hy23
               clear hy23
               replace q23 := eq_true q23
               have p201 : 0 ≤ (0 : Int) := (by omega)
               have q201 : 0 < (y197.length : Int) := of_decide_eq_true (by xas_)
               obtain ⟨ad201, e201, hx201_0⟩ := Kd.at_int HR200.out 0 p201 q201
               have hw201_0 := hx201_0
               (try rw [show ((0 : Int)).toNat = 0 from rfl] at hw201_0)
               (try rw [show 0 * 1 = 0 from rfl] at hw201_0)
               (try rw [Addr.add_zero'] at hw201_0)
               cases e201
               have qi201 : (0 < y197.length) = True := eq_true (by omega)
               (try rw [show ((0 : Int)).toNat = 0 from rfl] at hx201_0)
               (try rw [Addr.add_zero'] at hx201_0)
               replace hx201_0 := (HB.out.cell (World.block_lt_of_cell? w _ hx201_0)).trans hx201_0
               replace p201 := eq_true p201
               replace q201 := eq_true q201
               have p202 : 0 ≤ (1 : Int) := (by omega)
               have q202 : 1 < (y197.length : Int) := of_decide_eq_true (by xas_)
               obtain ⟨ad202, e202, hx202_0⟩ := Kd.at_int HR200.out 1 p202 q202
               have hw202_0 := hx202_0
               (try rw [show ((1 : Int)).toNat = 1 from rfl] at hw202_0)
               (try rw [show 1 * 1 = 1 from rfl] at hw202_0)
               (try simp only [Nat.reduceMul, Nat.reduceEqDiff, Go.Addr.add, ↓reduceIte] at hw202_0)
               obtain rfl : ad201 = ad202 := (by injection e202)
               (try simp only [show (1 : Int).toNat = 1 from rfl, Nat.reduceMul, Nat.reduceEqDiff, Go.Addr.add, ↓reduceIte] at hx202_0)
               have qi202 : (1 < y197.length) = True := eq_true (by omega)
               (try rw [show ((1 : Int)).toNat = 1 from rfl] at hx202_0)
               replace hx202_0 := (HB.out.cell (World.block_lt_of_cell? w _ hx202_0)).trans hx202_0
               replace p202 := eq_true p202
               replace q202 := eq_true q202
               have p203 : 0 ≤ (2 : Int) := (by omega)
               have q203 : 2 < (y197.length : Int) := of_decide_eq_true (by xas_)
               obtain ⟨ad203, e203, hx203_0⟩ := Kd.at_int HR200.out 2 p203 q203
               have hw203_0 := hx203_0
               (try rw [show ((2 : Int)).toNat = 2 from rfl] at hw203_0)
               (try rw [show 2 * 1 = 2 from rfl] at hw203_0)
               (try simp only [Nat.reduceMul, Nat.reduceEqDiff, Go.Addr.add, ↓reduceIte] at hw203_0)
               obtain rfl : ad201 = ad203 := (by injection e203)
               (try simp only [show (2 : Int).toNat = 2 from rfl, Nat.reduceMul, Nat.reduceEqDiff, Go.Addr.add, ↓reduceIte] at hx203_0)
               have qi203 : (2 < y197.length) = True := eq_true (by omega)
               (try rw [show ((2 : Int)).toNat = 2 from rfl] at hx203_0)
               replace hx203_0 := (HB.out.cell (World.block_lt_of_cell? w _ hx203_0)).trans hx203_0
               replace p203 := eq_true p203
               replace q203 := eq_true q203
               have p204 : 0 ≤ (3 : Int) := (by omega)
               have q204 : 3 < (y197.length : Int) := of_decide_eq_true (by xas_)
               obtain ⟨ad204, e204, hx204_0⟩ := Kd.at_int HR200.out 3 p204 q204
               have hw204_0 := hx204_0
               (try rw [show ((3 : Int)).toNat = 3 from rfl] at hw204_0)
               (try rw [show 3 * 1 = 3 from rfl] at hw204_0)
               (try simp only [Nat.reduceMul, Nat.reduceEqDiff, Go.Addr.add, ↓reduceIte] at hw204_0)
               obtain rfl : ad201 = ad204 := (by injection e204)
               (try simp only [show (3 : Int).toNat = 3 from rfl, Nat.reduceMul, Nat.reduceEqDiff, Go.Addr.add, ↓reduceIte] at hx204_0)
               have qi204 : (3 < y197.length) = True := eq_true (by omega)
               (try rw [show ((3 : Int)).toNat = 3 from rfl] at hx204_0)
               replace hx204_0 := (HB.out.cell (World.block_lt_of_cell? w _ hx204_0)).trans hx204_0
               replace p204 := eq_true p204
               replace q204 := eq_true q204
               refine start_ (n := 7) (S := fun w' => w'.cell? ad201 = some (.int .u8 (rd y197 0)) ∧ w'.cell? ⟨ad201.block, ad201.off + 1, none⟩ = some (.int .u8 (rd y197 1)) ∧ w'.cell? ⟨ad201.block, ad201.off + 2, none⟩ = some (.int .u8 (rd y197 2)) ∧ w'.cell? ⟨ad201.block, ad201.off + 3, none⟩ = some (.int .u8 (rd y197 3))) (ds := []) #[false, false, false, false, false, false, false] (by kernel_rfl) rfl rfl ⟨((HB.out.cell (World.block_lt_of_cell? w _ hw201_0)).trans hw201_0), ((HB.out.cell (World.block_lt_of_cell? w _ hw202_0)).trans hw202_0), ((HB.out.cell (World.block_lt_of_cell? w _ hw203_0)).trans hw203_0), ((HB.out.cell (World.block_lt_of_cell? w _ hw204_0)).trans hw204_0)⟩ (fun hHeld => ?_)
               generalize w21.drew = w22 at BK196 HB HR200 hx201_0 hx202_0 hx203_0 hx204_0 hHeld ⊢
               refine pure_ (i := 0) (N := some 21) (v := ?_) (a' := ?_) #[true, false, false, false, false, false, false] rfl rfl (by kernel_rfl) (fun _ _ _ h => h) (Or.inl ⟨by rfl, ?_⟩) ?_ ?_
               rotate_left
               ·intro w'
                go_simp
                with_reducible rfl
               rotate_left
               ·xsp_ i64_w i32_w
                rfl
               refine pure_ (i := 1) (N := some 22) (v := ?_) (a' := ?_) #[true, true, false, false, false, false, false] rfl rfl (by kernel_rfl) (fun _ _ _ h => h) (Or.inl ⟨by rfl, ?_⟩) ?_ ?_
               rotate_left
               ·intro w'
                go_simp
                with_reducible rfl
               rotate_left
               ·xsp_ i64_w i32_w
                rfl
               refine pure_ (i := 2) (N := some 23) (v := ?_) (a' := ?_) #[true, true, true, false, false, false, false] rfl rfl (by kernel_rfl) (fun _ _ _ h => h) (Or.inl ⟨by rfl, ?_⟩) ?_ ?_
               rotate_left
               ·intro w'
                go_simp
                rw [XFn.run_arrayAt Try.underlying61 _ _ _ (by show 3 < _; exact of_decide_eq_true (by xas_))]
                rfl
               rotate_left
               ·xsp_ i64_w i32_w
                rfl
               refine take_ (i := 3) (N := some 24) (v := ?_) (a' := ?_) #[true, true, true, true, false, false, false] rfl rfl (by kernel_rfl) (fun _ _ _ h => h) (Or.inl ⟨by rfl, ?_⟩) hHeld ?_ ?_
               rotate_left
               ·rintro w' ⟨s0, s1, s2, s3⟩
                go_simp
                with_reducible rfl
               rotate_left
               ·xsp_ i64_w i32_w
                rfl
               refine one_ (i := 4) (N := some 25) #[true, true, true, true, true, false, false] rfl rfl (by kernel_rfl) (by decide) (fun K hK => ?_)
               refine goes_ Try.func26 (by kernel_rfl) rfl #[] (by rfl) rfl rfl (by xlm_) ?_
               with_reducible refine (table_known.calls  t205 t206 t207 t208 _ A10.out).mono ?_
               rintro e w24 ⟨rfl, hb⟩
               refine ⟨_, rfl, ?_⟩
               have n0_ := Aside0.mk (blk_below (g := gb196) (o := .cells #[.int .i64 0, .slice none 0 0, .slice none 0 0, .slice none 0 0] 26 (0, 0)) (by xkb_; exact BK196.out) hb)
               have n1_ := Aside0.mk (below_step (by repeat (first | (with_reducible first | exact HB.out | apply below_alloc | apply pw_below_drewN | apply below_drew1 | refine below_set ?_ GE196.out) | exact HB.out)) hb)
               clear BK196
               clear HB
               have BK196 := n0_
               have HB := n1_
               clear n0_ n1_
               (try clear hb)
               (try clear hb2)
               (try clear hk)
               (try clear hi)
               refine hK.out _ _ ⟨((HB.out.cell (World.block_lt_of_cell? w _ hw201_0)).trans hw201_0), ((HB.out.cell (World.block_lt_of_cell? w _ hw202_0)).trans hw202_0), ((HB.out.cell (World.block_lt_of_cell? w _ hw203_0)).trans hw203_0), ((HB.out.cell (World.block_lt_of_cell? w _ hw204_0)).trans hw204_0)⟩ (fun hHeld => ?_)
               clear hK K
               refine norm_ (a' := ?_) ?_ ?_
               rotate_left
               ·show Act.put _ (some 25) _ = _
                xsp_ i64_w i32_w
                rfl
               refine pure_ (i := 5) (N := some 26) (v := ?_) (a' := ?_) #[true, true, true, true, true, true, false] rfl rfl (by kernel_rfl) (fun _ _ _ h => h) (Or.inl ⟨by rfl, ?_⟩) ?_ ?_
               rotate_left
               ·intro w'
                go_simp
                rw [XFn.eqA4 _ 9998 Try.underlying61 Try.underlying5 (by kernel_rfl) (by kernel_rfl)]
                simp only [Result.andThen_ok]
                try simp only [c11b0, Bool.true_and, Bool.false_and, Bool.not_true, Bool.not_false]
                try simp only [c12b0, Bool.true_and, Bool.false_and, Bool.not_true, Bool.not_false]
                try simp only [c13b0, Bool.true_and, Bool.false_and, Bool.not_true, Bool.not_false]
                try simp only [c14b0, Bool.true_and, Bool.false_and, Bool.not_true, Bool.not_false]
                with_reducible rfl
               rotate_left
               ·xsp_ i64_w i32_w
                rfl
               refine pure_ (i := 6) (N := some 20) (v := ?_) (a' := ?_) #[true, true, true, true, true, true, true] rfl rfl (by kernel_rfl) (fun _ _ _ h => h) (Or.inl ⟨by rfl, ?_⟩) ?_ ?_
               rotate_left
               ·intro w'
                go_simp
                with_reducible rfl
               rotate_left
               ·xsp_ i64_w i32_w
                rfl
               refine done_ (by kernel_rfl) ?_
               try go_wp2_with (first | ((with_reducible refine gate_callee (f := 32) rfl ?_); refine goesL_ (some 30) rfl rfl Try.func32 (by kernel_rfl) rfl #[.slice (some ad201) l0.length c0] rfl (by xlm_) ?_; (with_reducible refine (table_sealed.calls k _ _ l0 true _ ?side1 ?side2 A15.out).mono ?_); (case side1 => repeat (first | exact (Kd.C_below HR0.out HB.out) | xkC_)); (case side2 => exact HC0.out); rintro e w' ⟨rfl, ⟨nd, rfl⟩⟩; refine ⟨_, rfl, ?_⟩; (try (rw [drewN_self w24]; generalize hq_ : World.drewN w24 _ = w24; have n0_ : Aside0 (w24.heap[gb196]? = some (.cells #[.int .i64 0, .slice none 0 0, .slice none 0 0, .slice none 0 0] 26 (0, 0))) := ⟨by rw [← hq_]; exact (by xkb_; exact BK196.out)⟩; have n1_ : Aside0 (Below w.heap.size w w24) := ⟨by rw [← hq_]; exact (by repeat (first | (with_reducible first | exact HB.out | apply below_alloc | apply pw_below_drewN | apply below_drew1 | refine below_set ?_ GE196.out) | exact HB.out))⟩; clear BK196 HB hq_; have BK196 := n0_; have HB := n1_; clear n0_ n1_; have hqzgb196_0 : w24.cell? ⟨gb196, 0, none⟩ = some (.int .i64 0) := (blk_cell BK196.out 0).trans rfl; have hqfgb196_0 := blk_frozen BK196.out 0; have hqzgb196_1 : w24.cell? ⟨gb196, 1, none⟩ = some (.slice none 0 0) := (blk_cell BK196.out 1).trans rfl; have hqfgb196_1 := blk_frozen BK196.out 1; have hqzgb196_2 : w24.cell? ⟨gb196, 2, none⟩ = some (.slice none 0 0) := (blk_cell BK196.out 2).trans rfl; have hqfgb196_2 := blk_frozen BK196.out 2; have hqzgb196_3 : w24.cell? ⟨gb196, 3, none⟩ = some (.slice none 0 0) := (blk_cell BK196.out 3).trans rfl; have hqfgb196_3 := blk_frozen BK196.out 3)); have p210 : 0 ≤ (4 : Int) := (by omega); have q210 : 4 < (l0.length : Int) := of_decide_eq_true (by xas_); obtain ⟨ad210, e210, hx210_0⟩ := Kd.at_int HR0.out 4 p210 q210; obtain rfl : ad201 = ad210 := (by injection e210); (try simp only [show (4 : Int).toNat = 4 from rfl, Nat.reduceMul, Nat.reduceEqDiff, Go.Addr.add, ↓reduceIte] at hx210_0); have qi210 : (4 < l0.length) = True := eq_true (by omega); (try rw [show ((4 : Int)).toNat = 4 from rfl] at hx210_0); replace hx210_0 := (HB.out.cell (World.block_lt_of_cell? w _ hx210_0)).trans hx210_0; replace p210 := eq_true p210; replace q210 := eq_true q210) | ((with_reducible refine gate_dst (N := 4) rfl ?_); xgg_; refine box_event ?hg (N := 4) ?hd (cs := #[.int .i64 0, .slice none 0 0, .slice none 0 0, .slice none 0 0]) (t := 26) ?hr ?_; (case hd => rfl); (case hg => rfl); (case hr => xgs_); intro gb211 hg w25 hbox hb; have n0_ := Aside0.mk (blk_below (g := gb196) (o := .cells #[.int .i64 0, .slice none 0 0, .slice none 0 0, .slice none 0 0] 26 (0, 0)) (by xkb_; exact BK196.out) hb); have n1_ := Aside0.mk (below_step (by repeat (first | (with_reducible first | exact HB.out | apply below_alloc | apply pw_below_drewN | apply below_drew1 | refine below_set ?_ GE196.out) | exact HB.out)) hb); have n2_ := Aside0.mk (hbox); have n3_ := Aside0.mk ((by rw [hg]; exact (below_size (by repeat (first | (with_reducible first | exact HB.out | apply below_alloc | apply pw_below_drewN | apply below_drew1 | refine below_set ?_ GE196.out) | exact HB.out))) : w.heap.size ≤ gb211)); have n4_ := Aside0.mk ((by rw [hg]; exact (below_size (by repeat (first | (with_reducible first | exact HB.out | apply below_alloc | apply pw_below_drewN | apply below_drew1 | refine below_set ?_ GE196.out) | exact HB.out))) : w.heap.size ≤ gb211)); have n5_ := Aside0.mk ((by rw [hg]; exact Nat.ne_of_lt (blk_lt (g := gb196) (o := .cells #[.int .i64 0, .slice none 0 0, .slice none 0 0, .slice none 0 0] 26 (0, 0)) (by xkb_; exact BK196.out)) : gb196 ≠ gb211)); have n6_ := Aside0.mk ((by rw [hg]; exact Nat.ne_of_gt (blk_lt (g := gb196) (o := .cells #[.int .i64 0, .slice none 0 0, .slice none 0 0, .slice none 0 0] 26 (0, 0)) (by xkb_; exact BK196.out)) : gb211 ≠ gb196)); clear BK196; clear HB; have BK196 := n0_; have HB := n1_; have BK211 := n2_; have GW211 := n3_; have GE211 := n4_; have NB196_211 := n5_; have NB211_196 := n6_; clear n0_ n1_ n2_ n3_ n4_ n5_ n6_; clear hb hbox hg; have hnb26 := NB211_196.out; have hnc26 := NB196_211.out; have hcz27_0 : w25.cell? ⟨gb211, 0, none⟩ = some (.int .i64 0) := (blk_cell BK211.out 0).trans rfl; have hcz27_1 : w25.cell? ⟨gb211, 1, none⟩ = some (.slice none 0 0) := (blk_cell BK211.out 1).trans rfl; have hcz27_2 : w25.cell? ⟨gb211, 2, none⟩ = some (.slice none 0 0) := (blk_cell BK211.out 2).trans rfl; have hcz27_3 : w25.cell? ⟨gb211, 3, none⟩ = some (.slice none 0 0) := (blk_cell BK211.out 3).trans rfl; have hfz27_0 := blk_frozen BK211.out 0; have hfz27_1 := blk_frozen BK211.out 1; have hfz27_2 := blk_frozen BK211.out 2; have hfz27_3 := blk_frozen BK211.out 3))
               have n0_ : Aside0 (((((w25.setCell ⟨gb211, 0, none⟩ (.int .i64 (wrap64 (rd l0 4)))).setCell ⟨gb211, 1, none⟩ (.slice none 0 0)).setCell ⟨gb211, 2, none⟩ (.slice none 0 0)).setCell ⟨gb211, 3, none⟩ (.slice none 0 0)).heap[gb196]? = some (.cells #[.int .i64 0, .slice none 0 0, .slice none 0 0, .slice none 0 0] 26 (0, 0))) := ⟨by xkb_; refine blk_far ?_ NB196_211.out _; xkb_; refine blk_far ?_ NB196_211.out _; xkb_; refine blk_far ?_ NB196_211.out _; xkb_; refine blk_far ?_ NB196_211.out _; xkb_; exact BK196.out⟩
               have n1_ : Aside0 (((((w25.setCell ⟨gb211, 0, none⟩ (.int .i64 (wrap64 (rd l0 4)))).setCell ⟨gb211, 1, none⟩ (.slice none 0 0)).setCell ⟨gb211, 2, none⟩ (.slice none 0 0)).setCell ⟨gb211, 3, none⟩ (.slice none 0 0)).heap[gb211]? = some (.cells #[.int .i64 (wrap64 (rd l0 4)), .slice none 0 0, .slice none 0 0, .slice none 0 0] 26 (0, 0))) := ⟨by xkb_; refine blk_put (cs := #[.int .i64 (wrap64 (rd l0 4)), .slice none 0 0, .slice none 0 0, .slice none 0 0]) ?_ 3 _ rfl; xkb_; refine blk_put (cs := #[.int .i64 (wrap64 (rd l0 4)), .slice none 0 0, .slice none 0 0, .slice none 0 0]) ?_ 2 _ rfl; xkb_; refine blk_put (cs := #[.int .i64 (wrap64 (rd l0 4)), .slice none 0 0, .slice none 0 0, .slice none 0 0]) ?_ 1 _ rfl; xkb_; refine blk_put (cs := #[.int .i64 0, .slice none 0 0, .slice none 0 0, .slice none 0 0]) ?_ 0 _ rfl; xkb_; exact BK211.out⟩
               have n2_ : Aside0 (Below w.heap.size w ((((w25.setCell ⟨gb211, 0, none⟩ (.int .i64 (wrap64 (rd l0 4)))).setCell ⟨gb211, 1, none⟩ (.slice none 0 0)).setCell ⟨gb211, 2, none⟩ (.slice none 0 0)).setCell ⟨gb211, 3, none⟩ (.slice none 0 0))) := ⟨by repeat (first | (with_reducible first | exact HB.out | apply below_alloc | apply pw_below_drewN | apply below_drew1 | refine below_set ?_ GE196.out | refine below_set ?_ GE211.out) | exact HB.out)⟩
               (try clear BK196)
               (try clear BK211)
               (try clear HB)
               generalize ((((w25.setCell ⟨gb211, 0, none⟩ (.int .i64 (wrap64 (rd l0 4)))).setCell ⟨gb211, 1, none⟩ (.slice none 0 0)).setCell ⟨gb211, 2, none⟩ (.slice none 0 0)).setCell ⟨gb211, 3, none⟩ (.slice none 0 0)) = w28 at n0_ n1_ n2_ ⊢
               have BK196 := n0_
               have BK211 := n1_
               have HB := n2_
               clear n0_ n1_ n2_
               have n0_ := Aside0.mk (blk_drew BK196.out)
               have n1_ := Aside0.mk (blk_drew BK211.out)
               have n2_ := Aside0.mk (below_drew1 HB.out)
               clear BK196
               clear BK211
               clear HB
               have BK196 := n0_
               have BK211 := n1_
               have HB := n2_
               clear n0_ n1_ n2_
               have p212 : 0 ≤ (5 : Int) := (by omega)
               have q212 : 5 < (l0.length : Int) := of_decide_eq_true (by xas_)
               obtain ⟨ad212, e212, hx212_0⟩ := Kd.at_int HR0.out 5 p212 q212
               have hw212_0 := hx212_0
               (try rw [show ((5 : Int)).toNat = 5 from rfl] at hw212_0)
               (try rw [show 5 * 1 = 5 from rfl] at hw212_0)
               (try simp only [Nat.reduceMul, Nat.reduceEqDiff, Go.Addr.add, ↓reduceIte] at hw212_0)
               obtain rfl : ad201 = ad212 := (by injection e212)
               (try simp only [show (5 : Int).toNat = 5 from rfl, Nat.reduceMul, Nat.reduceEqDiff, Go.Addr.add, ↓reduceIte] at hx212_0)
               have qi212 : (5 < l0.length) = True := eq_true (by omega)
               (try rw [show ((5 : Int)).toNat = 5 from rfl] at hx212_0)
               replace hx212_0 := (HB.out.cell (World.block_lt_of_cell? w _ hx212_0)).trans hx212_0
               replace p212 := eq_true p212
               replace q212 := eq_true q212
               have p213 : 0 ≤ (6 : Int) := (by omega)
               have q213 : 6 < (l0.length : Int) := of_decide_eq_true (by xas_)
               obtain ⟨ad213, e213, hx213_0⟩ := Kd.at_int HR0.out 6 p213 q213
               have hw213_0 := hx213_0
               (try rw [show ((6 : Int)).toNat = 6 from rfl] at hw213_0)
               (try rw [show 6 * 1 = 6 from rfl] at hw213_0)
               (try simp only [Nat.reduceMul, Nat.reduceEqDiff, Go.Addr.add, ↓reduceIte] at hw213_0)
               obtain rfl : ad201 = ad213 := (by injection e213)
               (try simp only [show (6 : Int).toNat = 6 from rfl, Nat.reduceMul, Nat.reduceEqDiff, Go.Addr.add, ↓reduceIte] at hx213_0)
               have qi213 : (6 < l0.length) = True := eq_true (by omega)
               (try rw [show ((6 : Int)).toNat = 6 from rfl] at hx213_0)
               replace hx213_0 := (HB.out.cell (World.block_lt_of_cell? w _ hx213_0)).trans hx213_0
               replace p213 := eq_true p213
               replace q213 := eq_true q213
               refine start_ (n := 10) (S := fun w' => w'.cell? ⟨ad201.block, ad201.off + 5, none⟩ = some (.int .u8 (rd l0 5)) ∧ w'.cell? ⟨ad201.block, ad201.off + 6, none⟩ = some (.int .u8 (rd l0 6))) (ds := []) #[false, false, false, false, false, false, false, false, false, false] (by kernel_rfl) rfl rfl ⟨((HB.out.cell (World.block_lt_of_cell? w _ hw212_0)).trans hw212_0), ((HB.out.cell (World.block_lt_of_cell? w _ hw213_0)).trans hw213_0)⟩ (fun hHeld => ?_); refine with_tabW table_Decode.tab8 table_Decode.bits8 (fun HT_ HW_ => ?_)
               generalize w28.drew = w29 at BK196 BK211 HB hx212_0 hx213_0 hHeld ⊢
               refine pure_ (i := 0) (N := some 38) (v := ?_) (a' := ?_) #[true, false, false, false, false, false, false, false, false, false] rfl rfl (any_of HT_.out (by kernel_rfl)) (fun _ _ _ h => h) (Or.inl ⟨by rfl, ?_⟩) ?_ ?_
               rotate_left
               ·intro w'
                go_simp
                with_reducible rfl
               rotate_left
               ·xsp_ i64_w i32_w
                rfl
               refine pure_ (i := 1) (N := some 39) (v := ?_) (a' := ?_) #[true, true, false, false, false, false, false, false, false, false] rfl rfl (any_of HT_.out (by kernel_rfl)) (fun _ _ _ h => h) (Or.inl ⟨by rfl, ?_⟩) ?_ ?_
               rotate_left
               ·intro w'
                go_simp
                with_reducible rfl
               rotate_left
               ·xsp_ i64_w i32_w
                rfl
               refine pure_ (i := 4) (N := some 42) (v := ?_) (a' := ?_) #[true, true, false, false, true, false, false, false, false, false] rfl rfl (any_of HT_.out (by kernel_rfl)) (fun _ _ _ h => h) (Or.inl ⟨by rfl, ?_⟩) ?_ ?_
               rotate_left
               ·intro w'
                go_simp
                with_reducible rfl
               rotate_left
               ·xsp_ i64_w i32_w
                rfl
               refine pure_ (i := 5) (N := some 43) (v := ?_) (a' := ?_) #[true, true, false, false, true, true, false, false, false, false] rfl rfl (any_of HT_.out (by kernel_rfl)) (fun _ _ _ h => h) (Or.inl ⟨by rfl, ?_⟩) ?_ ?_
               rotate_left
               ·intro w'
                go_simp
                with_reducible rfl
               rotate_left
               ·xsp_ i64_w i32_w
                rfl
               refine take_ (i := 2) (N := some 40) (v := ?_) (a' := ?_) #[true, true, true, false, true, true, false, false, false, false] rfl rfl (take_ofW HT_.out HW_.out (by kernel_rfl)) (fun _ _ _ h => h) (Or.inl ⟨by rfl, ?_⟩) hHeld ?_ ?_
               rotate_left
               ·rintro w' ⟨s0, s1⟩
                go_simp
                with_reducible rfl
               rotate_left
               ·xsp_ i64_w i32_w
                rfl
               refine pure_ (i := 3) (N := some 41) (v := ?_) (a' := ?_) #[true, true, true, true, true, true, false, false, false, false] rfl rfl (any_of HT_.out (by kernel_rfl)) (fun _ _ _ h => h) (Or.inl ⟨by rfl, ?_⟩) ?_ ?_
               rotate_left
               ·intro w'
                go_simp
                with_reducible rfl
               rotate_left
               ·xsp_ i64_w i32_w
                rfl
               refine pure_ (i := 8) (N := some 5) (v := ?_) (a' := ?_) #[true, true, true, true, true, true, false, false, true, false] rfl rfl (any_of HT_.out (by kernel_rfl)) (fun _ _ _ h => h) (Or.inl ⟨by rfl, ?_⟩) ?_ ?_
               rotate_left
               ·intro w'
                go_simp
                with_reducible rfl
               rotate_left
               ·xsp_ i64_w i32_w
                rfl
               refine take_ (i := 6) (N := some 44) (v := ?_) (a' := ?_) #[true, true, true, true, true, true, true, false, true, false] rfl rfl (take_ofW HT_.out HW_.out (by kernel_rfl)) (fun _ _ _ h => h) (Or.inl ⟨by rfl, ?_⟩) hHeld ?_ ?_
               rotate_left
               ·rintro w' ⟨s0, s1⟩
                go_simp
                with_reducible rfl
               rotate_left
               ·xsp_ i64_w i32_w
                rfl
               refine pure_ (i := 7) (N := some 45) (v := ?_) (a' := ?_) #[true, true, true, true, true, true, true, true, true, false] rfl rfl (any_of HT_.out (by kernel_rfl)) (fun _ _ _ h => h) (Or.inl ⟨by rfl, ?_⟩) ?_ ?_
               rotate_left
               ·intro w'
                go_simp
                with_reducible rfl
               rotate_left
               ·xsp_ i64_w i32_w
                rfl
               refine pure_ (i := 9) (N := some 6) (v := ?_) (a' := ?_) #[true, true, true, true, true, true, true, true, true, true] rfl rfl (any_of HT_.out (by kernel_rfl)) (fun _ _ _ h => h) (Or.inl ⟨by rfl, ?_⟩) ?_ ?_
               rotate_left
               ·intro w'
                go_simp
                with_reducible rfl
               rotate_left
               ·xsp_ i64_w i32_w
                rfl
               refine done_ (done_of HT_.out (by kernel_rfl)) ?_
               go_upto_region 9 with (fail)
               go_cut [69] (fun v69 wc => ∃ (kq : Nat) (x69_19 : Bool), v69 = .bool x69_19 ∧ Aside0 (table_Decode.j0 kq l0 (wrap64 (rd l0 5)) (wrap64 (rd l0 6)) x69_19 (wrap64 (rd l0 4)) = some (r1, r2, r3, r4, r5)) ∧ Aside0 (kq ≤ k) ∧ Aside0 (wc.heap[gb196]? = some (.cells #[.int .i64 0, (.slice none 0 0), (.slice none 0 0), (.slice none 0 0)] 26 (0, 0))) ∧ Aside0 (wc.heap[gb211]? = some (.cells #[.int .i64 (wrap64 (rd l0 4)), (.slice none 0 0), (.slice none 0 0), (.slice none 0 0)] 26 (0, 0))) ∧ Aside0 (Below w.heap.size w wc))
               case first =>
                have H := HC20.out
                clear HC20
                replace H := Option.bind_eq_some_iff.mp H
                obtain ⟨t214, A300, H⟩ := H
                replace H : (if t214 = true then ((table_between.f (wrap64 (rd l0 5)) 1 5).bind fun t215 => (if t215 = true then ((table_between.f (wrap64 (rd l0 6)) 1 60).bind fun t216 => (if t216 = true then ((table_Length.f (wrap64 (rd l0 4)) (wrap64 (rd l0 5)) (wrap64 (rd l0 6))).bind fun t217 => (table_Decode.j0 k l0 (wrap64 (rd l0 5)) (wrap64 (rd l0 6)) (t217 != (l0.length : Int)) (wrap64 (rd l0 4)))) else (table_Decode.j0 k l0 (wrap64 (rd l0 5)) (wrap64 (rd l0 6)) true (wrap64 (rd l0 4))))) else (table_Decode.j0 k l0 (wrap64 (rd l0 5)) (wrap64 (rd l0 6)) true (wrap64 (rd l0 4))))) else (table_Decode.j0 k l0 (wrap64 (rd l0 5)) (wrap64 (rd l0 6)) true (wrap64 (rd l0 4)))) = some (r1, r2, r3, r4, r5) := H
                have A30 := Aside0.mk A300
                clear A300
                by_cases c31 : t214 = true
                ·subst c31
                 have H1 : ((table_between.f (wrap64 (rd l0 5)) 1 5).bind fun t215 => (if t215 = true then ((table_between.f (wrap64 (rd l0 6)) 1 60).bind fun t216 => (if t216 = true then ((table_Length.f (wrap64 (rd l0 4)) (wrap64 (rd l0 5)) (wrap64 (rd l0 6))).bind fun t217 => (table_Decode.j0 k l0 (wrap64 (rd l0 5)) (wrap64 (rd l0 6)) (t217 != (l0.length : Int)) (wrap64 (rd l0 4)))) else (table_Decode.j0 k l0 (wrap64 (rd l0 5)) (wrap64 (rd l0 6)) true (wrap64 (rd l0 4))))) else (table_Decode.j0 k l0 (wrap64 (rd l0 5)) (wrap64 (rd l0 6)) true (wrap64 (rd l0 4))))) = some (r1, r2, r3, r4, r5) := by rw [if_pos rfl] at H; exact H
                 clear H
                 have H := H1
                 clear H1
                 replace H := Option.bind_eq_some_iff.mp H
                 obtain ⟨t215, A320, H⟩ := H
                 replace H : (if t215 = true then ((table_between.f (wrap64 (rd l0 6)) 1 60).bind fun t216 => (if t216 = true then ((table_Length.f (wrap64 (rd l0 4)) (wrap64 (rd l0 5)) (wrap64 (rd l0 6))).bind fun t217 => (table_Decode.j0 k l0 (wrap64 (rd l0 5)) (wrap64 (rd l0 6)) (t217 != (l0.length : Int)) (wrap64 (rd l0 4)))) else (table_Decode.j0 k l0 (wrap64 (rd l0 5)) (wrap64 (rd l0 6)) true (wrap64 (rd l0 4))))) else (table_Decode.j0 k l0 (wrap64 (rd l0 5)) (wrap64 (rd l0 6)) true (wrap64 (rd l0 4)))) = some (r1, r2, r3, r4, r5) := H
                 have A32 := Aside0.mk A320
                 clear A320
                 by_cases c33 : t215 = true
                 ·subst c33
                  have H1 : ((table_between.f (wrap64 (rd l0 6)) 1 60).bind fun t216 => (if t216 = true then ((table_Length.f (wrap64 (rd l0 4)) (wrap64 (rd l0 5)) (wrap64 (rd l0 6))).bind fun t217 => (table_Decode.j0 k l0 (wrap64 (rd l0 5)) (wrap64 (rd l0 6)) (t217 != (l0.length : Int)) (wrap64 (rd l0 4)))) else (table_Decode.j0 k l0 (wrap64 (rd l0 5)) (wrap64 (rd l0 6)) true (wrap64 (rd l0 4))))) = some (r1, r2, r3, r4, r5) := by rw [if_pos rfl] at H; exact H
                  clear H
                  have H := H1
                  clear H1
                  replace H := Option.bind_eq_some_iff.mp H
                  obtain ⟨t216, A340, H⟩ := H
                  replace H : (if t216 = true then ((table_Length.f (wrap64 (rd l0 4)) (wrap64 (rd l0 5)) (wrap64 (rd l0 6))).bind fun t217 => (table_Decode.j0 k l0 (wrap64 (rd l0 5)) (wrap64 (rd l0 6)) (t217 != (l0.length : Int)) (wrap64 (rd l0 4)))) else (table_Decode.j0 k l0 (wrap64 (rd l0 5)) (wrap64 (rd l0 6)) true (wrap64 (rd l0 4)))) = some (r1, r2, r3, r4, r5) := H
                  have A34 := Aside0.mk A340
                  clear A340
                  by_cases c35 : t216 = true
                  ·subst c35
                   have H1 : ((table_Length.f (wrap64 (rd l0 4)) (wrap64 (rd l0 5)) (wrap64 (rd l0 6))).bind fun t217 => (table_Decode.j0 k l0 (wrap64 (rd l0 5)) (wrap64 (rd l0 6)) (t217 != (l0.length : Int)) (wrap64 (rd l0 4)))) = some (r1, r2, r3, r4, r5) := by rw [if_pos rfl] at H; exact H
                   clear H
                   have H := H1
                   clear H1
                   replace H := Option.bind_eq_some_iff.mp H
                   obtain ⟨t217, A360, H⟩ := H
                   replace H : (table_Decode.j0 k l0 (wrap64 (rd l0 5)) (wrap64 (rd l0 6)) (t217 != (l0.length : Int)) (wrap64 (rd l0 4))) = some (r1, r2, r3, r4, r5) := H
                   have A36 := Aside0.mk A360
                   clear A360
                   have H' := Aside0.mk H
                   clear H
                   have hnb37 := NB211_196.out
                   have hnc37 := NB196_211.out
                   have hcz38_0 : w29.cell? ⟨gb211, 0, none⟩ = some (.int .i64 (wrap64 (rd l0 4))) := (blk_cell BK211.out 0).trans rfl
                   have hcz38_1 : w29.cell? ⟨gb211, 1, none⟩ = some (.slice none 0 0) := (blk_cell BK211.out 1).trans rfl
                   have hcz38_2 : w29.cell? ⟨gb211, 2, none⟩ = some (.slice none 0 0) := (blk_cell BK211.out 2).trans rfl
                   have hcz38_3 : w29.cell? ⟨gb211, 3, none⟩ = some (.slice none 0 0) := (blk_cell BK211.out 3).trans rfl
                   have hfz38_0 := blk_frozen BK211.out 0
                   have hfz38_1 := blk_frozen BK211.out 1
                   have hfz38_2 := blk_frozen BK211.out 2
                   have hfz38_3 := blk_frozen BK211.out 3
                   go_wp2_with (first | ((with_reducible refine gate_callee (f := 33) rfl ?_); refine goesL_ (some 48) rfl rfl Try.func33 (by kernel_rfl) rfl #[.int .i64 (wrap64 (rd l0 4)), .int .i64 1, .int .i64 8] rfl (by xlm_) ?_; (with_reducible refine (table_between.calls (wrap64 (rd l0 4)) 1 8 true _ A30.out).mono ?_); rintro e w' ⟨rfl, ⟨nd, rfl⟩⟩; refine ⟨_, rfl, ?_⟩) | (go_at_call 33; (with_reducible refine (table_between.calls (wrap64 (rd l0 5)) 1 5 true _ A32.out).mono ?_); rintro e w' ⟨rfl, ⟨nd, rfl⟩⟩) | (go_at_call 33; (with_reducible refine (table_between.calls (wrap64 (rd l0 6)) 1 60 true _ A34.out).mono ?_); rintro e w' ⟨rfl, ⟨nd, rfl⟩⟩) | (go_at_call 19; (with_reducible refine (table_Length.calls (wrap64 (rd l0 4)) (wrap64 (rd l0 5)) (wrap64 (rd l0 6)) t217 _ A36.out).mono ?_); rintro e w' ⟨rfl, ⟨nd, rfl⟩⟩))
                   go_meet
                   case rel => exact ⟨_, ((t217 != (l0.length : Int))), (by xrs_), H', ⟨by first | omega | exact Nat.le_refl _⟩, ⟨by xkb_; exact BK196.out⟩, ⟨by xkb_; exact BK211.out⟩, ⟨by repeat (first | (with_reducible first | exact HB.out | apply below_alloc | apply pw_below_drewN | apply below_drew1 | refine below_set ?_ GE196.out | refine below_set ?_ GE211.out) | exact HB.out)⟩⟩
                  ·replace c35 := Bool.eq_false_iff.mpr c35
                   subst c35
                   have H1 : (table_Decode.j0 k l0 (wrap64 (rd l0 5)) (wrap64 (rd l0 6)) true (wrap64 (rd l0 4))) = some (r1, r2, r3, r4, r5) := by rw [if_neg (show ¬ (false = true) by decide)] at H; exact H
                   clear H
                   have H := H1
                   clear H1
                   have H' := Aside0.mk H
                   clear H
                   have hnb39 := NB211_196.out
                   have hnc39 := NB196_211.out
                   have hcz40_0 : w29.cell? ⟨gb211, 0, none⟩ = some (.int .i64 (wrap64 (rd l0 4))) := (blk_cell BK211.out 0).trans rfl
                   have hcz40_1 : w29.cell? ⟨gb211, 1, none⟩ = some (.slice none 0 0) := (blk_cell BK211.out 1).trans rfl
                   have hcz40_2 : w29.cell? ⟨gb211, 2, none⟩ = some (.slice none 0 0) := (blk_cell BK211.out 2).trans rfl
                   have hcz40_3 : w29.cell? ⟨gb211, 3, none⟩ = some (.slice none 0 0) := (blk_cell BK211.out 3).trans rfl
                   have hfz40_0 := blk_frozen BK211.out 0
                   have hfz40_1 := blk_frozen BK211.out 1
                   have hfz40_2 := blk_frozen BK211.out 2
                   have hfz40_3 := blk_frozen BK211.out 3
                   go_wp2_with (first | ((with_reducible refine gate_callee (f := 33) rfl ?_); refine goesL_ (some 48) rfl rfl Try.func33 (by kernel_rfl) rfl #[.int .i64 (wrap64 (rd l0 4)), .int .i64 1, .int .i64 8] rfl (by xlm_) ?_; (with_reducible refine (table_between.calls (wrap64 (rd l0 4)) 1 8 true _ A30.out).mono ?_); rintro e w' ⟨rfl, ⟨nd, rfl⟩⟩; refine ⟨_, rfl, ?_⟩) | (go_at_call 33; (with_reducible refine (table_between.calls (wrap64 (rd l0 5)) 1 5 true _ A32.out).mono ?_); rintro e w' ⟨rfl, ⟨nd, rfl⟩⟩) | (go_at_call 33; (with_reducible refine (table_between.calls (wrap64 (rd l0 6)) 1 60 false _ A34.out).mono ?_); rintro e w' ⟨rfl, ⟨nd, rfl⟩⟩))
                   go_meet
                   case rel => exact ⟨_, (true), (by xrs_), H', ⟨by first | omega | exact Nat.le_refl _⟩, ⟨by xkb_; exact BK196.out⟩, ⟨by xkb_; exact BK211.out⟩, ⟨by repeat (first | (with_reducible first | exact HB.out | apply below_alloc | apply pw_below_drewN | apply below_drew1 | refine below_set ?_ GE196.out | refine below_set ?_ GE211.out) | exact HB.out)⟩⟩
                 ·replace c33 := Bool.eq_false_iff.mpr c33
                  subst c33
                  have H1 : (table_Decode.j0 k l0 (wrap64 (rd l0 5)) (wrap64 (rd l0 6)) true (wrap64 (rd l0 4))) = some (r1, r2, r3, r4, r5) := by rw [if_neg (show ¬ (false = true) by decide)] at H; exact H
                  clear H
                  have H := H1
                  clear H1
                  have H' := Aside0.mk H
                  clear H
                  have hnb41 := NB211_196.out
                  have hnc41 := NB196_211.out
                  have hcz42_0 : w29.cell? ⟨gb211, 0, none⟩ = some (.int .i64 (wrap64 (rd l0 4))) := (blk_cell BK211.out 0).trans rfl
                  have hcz42_1 : w29.cell? ⟨gb211, 1, none⟩ = some (.slice none 0 0) := (blk_cell BK211.out 1).trans rfl
                  have hcz42_2 : w29.cell? ⟨gb211, 2, none⟩ = some (.slice none 0 0) := (blk_cell BK211.out 2).trans rfl
                  have hcz42_3 : w29.cell? ⟨gb211, 3, none⟩ = some (.slice none 0 0) := (blk_cell BK211.out 3).trans rfl
                  have hfz42_0 := blk_frozen BK211.out 0
                  have hfz42_1 := blk_frozen BK211.out 1
                  have hfz42_2 := blk_frozen BK211.out 2
                  have hfz42_3 := blk_frozen BK211.out 3
                  go_wp2_with (first | ((with_reducible refine gate_callee (f := 33) rfl ?_); refine goesL_ (some 48) rfl rfl Try.func33 (by kernel_rfl) rfl #[.int .i64 (wrap64 (rd l0 4)), .int .i64 1, .int .i64 8] rfl (by xlm_) ?_; (with_reducible refine (table_between.calls (wrap64 (rd l0 4)) 1 8 true _ A30.out).mono ?_); rintro e w' ⟨rfl, ⟨nd, rfl⟩⟩; refine ⟨_, rfl, ?_⟩) | (go_at_call 33; (with_reducible refine (table_between.calls (wrap64 (rd l0 5)) 1 5 false _ A32.out).mono ?_); rintro e w' ⟨rfl, ⟨nd, rfl⟩⟩))
                  go_meet
                  case rel => exact ⟨_, (true), (by xrs_), H', ⟨by first | omega | exact Nat.le_refl _⟩, ⟨by xkb_; exact BK196.out⟩, ⟨by xkb_; exact BK211.out⟩, ⟨by repeat (first | (with_reducible first | exact HB.out | apply below_alloc | apply pw_below_drewN | apply below_drew1 | refine below_set ?_ GE196.out | refine below_set ?_ GE211.out) | exact HB.out)⟩⟩
                ·replace c31 := Bool.eq_false_iff.mpr c31
                 subst c31
                 have H1 : (table_Decode.j0 k l0 (wrap64 (rd l0 5)) (wrap64 (rd l0 6)) true (wrap64 (rd l0 4))) = some (r1, r2, r3, r4, r5) := by rw [if_neg (show ¬ (false = true) by decide)] at H; exact H
                 clear H
                 have H := H1
                 clear H1
                 have H' := Aside0.mk H
                 clear H
                 have hnb43 := NB211_196.out
                 have hnc43 := NB196_211.out
                 have hcz44_0 : w29.cell? ⟨gb211, 0, none⟩ = some (.int .i64 (wrap64 (rd l0 4))) := (blk_cell BK211.out 0).trans rfl
                 have hcz44_1 : w29.cell? ⟨gb211, 1, none⟩ = some (.slice none 0 0) := (blk_cell BK211.out 1).trans rfl
                 have hcz44_2 : w29.cell? ⟨gb211, 2, none⟩ = some (.slice none 0 0) := (blk_cell BK211.out 2).trans rfl
                 have hcz44_3 : w29.cell? ⟨gb211, 3, none⟩ = some (.slice none 0 0) := (blk_cell BK211.out 3).trans rfl
                 have hfz44_0 := blk_frozen BK211.out 0
                 have hfz44_1 := blk_frozen BK211.out 1
                 have hfz44_2 := blk_frozen BK211.out 2
                 have hfz44_3 := blk_frozen BK211.out 3
                 go_wp2_with (first | ((with_reducible refine gate_callee (f := 33) rfl ?_); refine goesL_ (some 48) rfl rfl Try.func33 (by kernel_rfl) rfl #[.int .i64 (wrap64 (rd l0 4)), .int .i64 1, .int .i64 8] rfl (by xlm_) ?_; (with_reducible refine (table_between.calls (wrap64 (rd l0 4)) 1 8 false _ A30.out).mono ?_); rintro e w' ⟨rfl, ⟨nd, rfl⟩⟩; refine ⟨_, rfl, ?_⟩))
                 go_meet
                 case rel => exact ⟨_, (true), (by xrs_), H', ⟨by first | omega | exact Nat.le_refl _⟩, ⟨by xkb_; exact BK196.out⟩, ⟨by xkb_; exact BK211.out⟩, ⟨by repeat (first | (with_reducible first | exact HB.out | apply below_alloc | apply pw_below_drewN | apply below_drew1 | refine below_set ?_ GE196.out | refine below_set ?_ GE211.out) | exact HB.out)⟩⟩
               case rest =>
                clear HC20
                xcl_ c1 c2 c2b0 c2b1 p2 q2 hx2 qi2 c3 c4 c5 c5b0 c5b1 c6 c6b0 c6b1 p6 c7 c7b0 c7b1 c8 c8b0 c8b1 c9 c9b0 c9b1 c11 c11b0 c11b1 c12 c12b0 c12b1 c13 c13b0 c13b1 c14 c14b0 c14b1 c16 c17 c17b0 c17b1 c18 c18b0 c18b1 c19 c19b0 c19b1 p20 q20 hx20 qi20 p21 q21 hx21 qi21 q23 c26 c31 c32 c33 c35 c37 c39 c41 c43 hcz27_0 hcz27_1 hcz27_2 hcz27_3 hcz38_0 hcz38_1 hcz38_2 hcz38_3 hcz40_0 hcz40_1 hcz40_2 hcz40_3 hcz42_0 hcz42_1 hcz42_2 hcz42_3 hcz44_0 hcz44_1 hcz44_2 hcz44_3 hcz4_0 hcz4_1 hcz4_2 hcz4_3 hfz27_0 hfz27_1 hfz27_2 hfz27_3 hfz38_0 hfz38_1 hfz38_2 hfz38_3 hfz40_0 hfz40_1 hfz40_2 hfz40_3 hfz42_0 hfz42_1 hfz42_2 hfz42_3 hfz44_0 hfz44_1 hfz44_2 hfz44_3 hfz4_0 hfz4_1 hfz4_2 hfz4_3 hx201_0 hx202_0 hx203_0 hx204_0 hx210_0 hx212_0 hx213_0 p201 p202 p203 p204 p210 p212 p213 q201 q202 q203 q204 q210 q212 q213 q23
                obtain ⟨kq, x69_19, rfl, HA, HJ19, BK196, BK211, HB⟩ := hcut
                cases kq with
                | zero => exact absurd HA.out (by simp [table_Decode.j0])
                | succ kj19 =>
                 have H := HA.out
                 clear HA
                 simp only [table_Decode.j0] at H
                 by_cases c45 : x69_19 = true
                 ·subst c45
                  have H1 : (some (0, ([] : List (S52)), ([] : List (List Int)), ([] : List Bool), 24)) = some (r1, r2, r3, r4, r5) := by rw [if_pos rfl] at H; exact H
                  clear H
                  have H := H1
                  clear H1
                  simp only [Option.some.injEq, Prod.mk.injEq] at H
                  obtain ⟨rfl, rfl, rfl, rfl, rfl⟩ := H
                  have hnb46 := NB196_211.out
                  have hnc46 := NB211_196.out
                  have hcz47_0 : wc.cell? ⟨gb196, 0, none⟩ = some (.int .i64 0) := (blk_cell BK196.out 0).trans rfl
                  have hcz47_1 : wc.cell? ⟨gb196, 1, none⟩ = some (.slice none 0 0) := (blk_cell BK196.out 1).trans rfl
                  have hcz47_2 : wc.cell? ⟨gb196, 2, none⟩ = some (.slice none 0 0) := (blk_cell BK196.out 2).trans rfl
                  have hcz47_3 : wc.cell? ⟨gb196, 3, none⟩ = some (.slice none 0 0) := (blk_cell BK196.out 3).trans rfl
                  have hfz47_0 := blk_frozen BK196.out 0
                  have hfz47_1 := blk_frozen BK196.out 1
                  have hfz47_2 := blk_frozen BK196.out 2
                  have hfz47_3 := blk_frozen BK196.out 3
                  go_wp2
                  refine bodyPost_ret (results_ct rfl _ _ gb196 26 #[.int .i64 0, .slice none 0 0, .slice none 0 0, .slice none 0 0] (0, 0) _ rfl (by xkb_; refine blk_put (cs := #[.int .i64 0, .slice none 0 0, .slice none 0 0, .slice none 0 0]) ?_ 3 _ rfl; xkb_; refine blk_put (cs := #[.int .i64 0, .slice none 0 0, .slice none 0 0, .slice none 0 0]) ?_ 2 _ rfl; xkb_; refine blk_put (cs := #[.int .i64 0, .slice none 0 0, .slice none 0 0, .slice none 0 0]) ?_ 1 _ rfl; xkb_; refine blk_put (cs := #[.int .i64 0, .slice none 0 0, .slice none 0 0, .slice none 0 0]) ?_ 0 _ rfl; xkb_; exact BK196.out) Try.underlying26 rfl (by kernel_rfl)) rfl ?_
                  exact ⟨_, _, _, by first | rfl | (simp [errW_none, errW_some] <;> rfl) | (simp [*, errW_none, errW_some] <;> rfl), by xni_, by first | exact Kd.S_nil _ _ _ _ _ | exact Kd.N_nil _ _ _ _ _ | exact Kd.V_nil _ _ _ _ _ | exact Kd.Q_nil _ _ _ _ _ | exact Kd.R_nil _ _ _ _ _, by xni_, by repeat (first | (with_reducible first | exact HB.out | apply below_alloc | apply pw_below_drewN | apply below_drew1 | refine below_set ?_ GE196.out | refine below_set ?_ GE211.out) | exact HB.out)⟩
                 ·replace c45 := Bool.eq_false_iff.mpr c45
                  subst c45
                  have H1 : (table_Decode.l0 kj19 l0 (wrap64 (rd l0 5)) 7 (wrap64 (rd l0 6)) 0 (wrap64 (rd l0 4)) ([] : List (S52))) = some (r1, r2, r3, r4, r5) := by rw [if_neg (show ¬ (false = true) by decide)] at H; exact H
                  clear H
                  have H := H1
                  clear H1
                  have H' := Aside0.mk H
                  clear H
                  go_wp2
                  go_loopg [7, 72] kj19 (fun kq v7 v72 w' => ∃ (x7_2 : Int) (x72_2 : Int) (x212001_2 : List (S52)) (u212001 : Value), v7 = .int .i64 x7_2 ∧ v72 = .int .i64 x72_2 ∧ Aside0 (table_Decode.l0 kq l0 (wrap64 (rd l0 5)) x7_2 (wrap64 (rd l0 6)) x72_2 (wrap64 (rd l0 4)) x212001_2 = some (r1, r2, r3, r4, r5)) ∧ Aside0 (kq ≤ kj19) ∧ Aside0 (Kd.R k52 52 w' w.heap.size (fun _ => True) u212001 x212001_2) ∧ Aside0 (w'.heap[gb196]? = some (.cells #[.int .i64 0, (.slice none 0 0), (.slice none 0 0), (.slice none 0 0)] 26 (0, 0))) ∧ Aside0 (w'.heap[gb211]? = some (.cells #[.int .i64 (wrap64 (rd l0 4)), u212001, (.slice none 0 0), (.slice none 0 0)] 26 (0, 0))) ∧ Aside0 (Below w.heap.size w w'))
                  case atStart => exact ⟨(7), (0), (([] : List (S52))), (.slice none 0 0), (by xrs_), (by xrs_), H', ⟨Nat.le_refl _⟩, ⟨by xni_⟩, ⟨by xkb_; exact BK196.out⟩, ⟨by xkb_; exact BK211.out⟩, ⟨by repeat (first | (with_reducible first | exact HB.out | apply below_alloc | apply pw_below_drewN | apply below_drew1 | refine below_set ?_ GE196.out | refine below_set ?_ GE211.out) | exact HB.out)⟩⟩
                  case round =>
                   clear H'
                   xcl_ c1 c2 c2b0 c2b1 p2 q2 hx2 qi2 c3 c4 c5 c5b0 c5b1 c6 c6b0 c6b1 p6 c7 c7b0 c7b1 c8 c8b0 c8b1 c9 c9b0 c9b1 c11 c11b0 c11b1 c12 c12b0 c12b1 c13 c13b0 c13b1 c14 c14b0 c14b1 c16 c17 c17b0 c17b1 c18 c18b0 c18b1 c19 c19b0 c19b1 p20 q20 hx20 qi20 p21 q21 hx21 qi21 q23 c26 c31 c32 c33 c35 c37 c39 c41 c43 c45 c46 hcz27_0 hcz27_1 hcz27_2 hcz27_3 hcz38_0 hcz38_1 hcz38_2 hcz38_3 hcz40_0 hcz40_1 hcz40_2 hcz40_3 hcz42_0 hcz42_1 hcz42_2 hcz42_3 hcz44_0 hcz44_1 hcz44_2 hcz44_3 hcz47_0 hcz47_1 hcz47_2 hcz47_3 hcz4_0 hcz4_1 hcz4_2 hcz4_3 hfz27_0 hfz27_1 hfz27_2 hfz27_3 hfz38_0 hfz38_1 hfz38_2 hfz38_3 hfz40_0 hfz40_1 hfz40_2 hfz40_3 hfz42_0 hfz42_1 hfz42_2 hfz42_3 hfz44_0 hfz44_1 hfz44_2 hfz44_3 hfz47_0 hfz47_1 hfz47_2 hfz47_3 hfz4_0 hfz4_1 hfz4_2 hfz4_3 hx201_0 hx202_0 hx203_0 hx204_0 hx210_0 hx212_0 hx213_0 p2 p20 p201 p202 p203 p204 p21 p210 p212 p213 p6 q2 q20 q201 q202 q203 q204 q21 q210 q212 q213 q23
                   obtain ⟨x7_2, x72_2, x212001_2, u212001, rfl, rfl, HA, HK2, HO_212001, BK196, BK211, HB⟩ := hrel
                   cases gk with
                   | zero => exact absurd HA.out (by simp [table_Decode.l0])
                   | succ k2 =>
                    have H := HA.out
                    clear HA
                    simp only [table_Decode.l0] at H
                    by_cases c48 : x72_2 < (wrap64 (rd l0 6))
                    ·rw [if_pos c48] at H
                     have c48b0 : decide (x72_2 < (wrap64 (rd l0 6))) = true := decide_eq_true c48
                     clear c48
                     replace H := Option.bind_eq_some_iff.mp H
                     obtain ⟨⟨t218, t219⟩, A490, H⟩ := H
                     replace H : (if 0 ≤ (wrap64 (x7_2 + 3)) then (if (wrap64 (x7_2 + 3)) < (l0.length : Int) then (if x212001_2.length < 8796093022208 then (table_Decode.l0 k2 l0 (wrap64 (rd l0 5)) (wrap64 (x7_2 + 4)) (wrap64 (rd l0 6)) (wrap64 (x72_2 + 1)) (wrap64 (rd l0 4)) (x212001_2 ++ [(⟨t218, wrap64 (rd l0 (wrap64 (x7_2 + 3)))⟩ : S52)])) else (none)) else (none)) else (none)) = some (r1, r2, r3, r4, r5) := H
                     have A49 := Aside0.mk A490
                     clear A490
                     obtain ⟨ji50, hji50⟩ : ∃ j_ : Int, (wrap64 (x7_2 + 3)) = j_ := ⟨_, rfl⟩
                     replace H : (if 0 ≤ (ji50) then (if (ji50) < (l0.length : Int) then (if x212001_2.length < 8796093022208 then (table_Decode.l0 k2 l0 (wrap64 (rd l0 5)) (wrap64 (x7_2 + 4)) (wrap64 (rd l0 6)) (wrap64 (x72_2 + 1)) (wrap64 (rd l0 4)) (x212001_2 ++ [(⟨t218, wrap64 (rd l0 (ji50))⟩ : S52)])) else (none)) else (none)) else (none)) = some (r1, r2, r3, r4, r5) := by first | (rw [hji50] at H; exact H) | (simp only [hji50] at H ⊢; exact H)
                     (try rw [hji50] at A49)
                     have hji50w : (IntKind.i64.wrap (x7_2 + 3)) = ji50 := (i64_w _).trans hji50
                     by_cases c51 : 0 ≤ (ji50)
                     ·rw [if_pos c51] at H
                      have c51b0 : decide (0 ≤ (ji50)) = true := decide_eq_true c51
                      clear c51
                      by_cases c52 : (ji50) < (l0.length : Int)
                      ·rw [if_pos c52] at H
                       have c52b0 : decide ((ji50) < (l0.length : Int)) = true := decide_eq_true c52
                       clear c52
                       by_cases c53 : x212001_2.length < 8796093022208
                       ·rw [if_pos c53] at H
                        have LMc53 := Aside0.mk c53
                        clear c53
                        obtain ⟨y221, hy221⟩ : ∃ y_ : List (S52), y_ = (x212001_2 ++ [(⟨t218, wrap64 (rd l0 (ji50))⟩ : S52)]) := ⟨_, rfl⟩
                        replace H : (table_Decode.l0 k2 l0 (wrap64 (rd l0 5)) (wrap64 (x7_2 + 4)) (wrap64 (rd l0 6)) (wrap64 (x72_2 + 1)) (wrap64 (rd l0 4)) y221) = some (r1, r2, r3, r4, r5) := by first | (rw [hy221]; with_reducible exact H) | (have H2_ := (Option.bind_some _ _).symm.trans H; rw [hy221]; with_reducible exact H2_) | (have H2_ := (Option.bind_some _ _).symm.trans H; with_reducible exact H2_) | with_reducible exact H | (rw [hy221]; exact H) | exact H
                        have Ny221 := Aside0.mk hy221
                        clear hy221
                        have H' := Aside0.mk H
                        clear H
                        try go_wp2_with (first | ((with_reducible refine gate_callee (f := 34) rfl ?_); refine goesL_ (some 77) rfl rfl Try.func34 (by kernel_rfl) rfl #[.slice (some ad201) l0.length c0, .int .i64 x7_2, .int .i64 3] rfl (by xlm_) ?_; (with_reducible refine (pack_Get.calls k2 _ _ l0 x7_2 3 t218 t219 _ ?side1 ?side2 A49.out).mono ?_); (case side1 => repeat (first | exact (Kd.C_below HR0.out HB.out) | xkC_)); (case side2 => exact HC0.out); rintro e w' ⟨rfl, ⟨nd, rfl⟩⟩; refine ⟨_, rfl, ?_⟩; (try (rw [drewN_self wr]; generalize hq_ : World.drewN wr _ = wr; have n0_ : Aside0 (Kd.R k52 52 wr w.heap.size (fun _ => True) u212001 x212001_2) := ⟨by rw [← hq_]; exact (by xkR_; exact HO_212001.out)⟩; have n1_ : Aside0 (wr.heap[gb196]? = some (.cells #[.int .i64 0, .slice none 0 0, .slice none 0 0, .slice none 0 0] 26 (0, 0))) := ⟨by rw [← hq_]; exact (by xkb_; exact BK196.out)⟩; have n2_ : Aside0 (wr.heap[gb211]? = some (.cells #[.int .i64 (wrap64 (rd l0 4)), u212001, .slice none 0 0, .slice none 0 0] 26 (0, 0))) := ⟨by rw [← hq_]; exact (by xkb_; exact BK211.out)⟩; have n3_ : Aside0 (Below w.heap.size w wr) := ⟨by rw [← hq_]; exact (by repeat (first | (with_reducible first | exact HB.out | apply below_alloc | apply pw_below_drewN | apply below_drew1 | refine below_set ?_ GE196.out | refine below_set ?_ GE211.out) | exact HB.out))⟩; clear HO_212001 BK196 BK211 HB hq_; have HO_212001 := n0_; have BK196 := n1_; have BK211 := n2_; have HB := n3_; clear n0_ n1_ n2_ n3_; have hqzgb196_0 : wr.cell? ⟨gb196, 0, none⟩ = some (.int .i64 0) := (blk_cell BK196.out 0).trans rfl; have hqfgb196_0 := blk_frozen BK196.out 0; have hqzgb196_1 : wr.cell? ⟨gb196, 1, none⟩ = some (.slice none 0 0) := (blk_cell BK196.out 1).trans rfl; have hqfgb196_1 := blk_frozen BK196.out 1; have hqzgb196_2 : wr.cell? ⟨gb196, 2, none⟩ = some (.slice none 0 0) := (blk_cell BK196.out 2).trans rfl; have hqfgb196_2 := blk_frozen BK196.out 2; have hqzgb196_3 : wr.cell? ⟨gb196, 3, none⟩ = some (.slice none 0 0) := (blk_cell BK196.out 3).trans rfl; have hqfgb196_3 := blk_frozen BK196.out 3; have hqzgb211_0 : wr.cell? ⟨gb211, 0, none⟩ = some (.int .i64 (wrap64 (rd l0 4))) := (blk_cell BK211.out 0).trans rfl; have hqfgb211_0 := blk_frozen BK211.out 0; have hqzgb211_1 : wr.cell? ⟨gb211, 1, none⟩ = some (u212001) := (blk_cell BK211.out 1).trans rfl; have hqfgb211_1 := blk_frozen BK211.out 1; have hqzgb211_2 : wr.cell? ⟨gb211, 2, none⟩ = some (.slice none 0 0) := (blk_cell BK211.out 2).trans rfl; have hqfgb211_2 := blk_frozen BK211.out 2; have hqzgb211_3 : wr.cell? ⟨gb211, 3, none⟩ = some (.slice none 0 0) := (blk_cell BK211.out 3).trans rfl; have hqfgb211_3 := blk_frozen BK211.out 3))))
                        have n0_ := Aside0.mk (Kd.R_drew HO_212001.out)
                        have n1_ := Aside0.mk (blk_drew BK196.out)
                        have n2_ := Aside0.mk (blk_drew BK211.out)
                        have n3_ := Aside0.mk (below_drew1 HB.out)
                        clear HO_212001
                        clear BK196
                        clear BK211
                        clear HB
                        have HO_212001 := n0_
                        have BK196 := n1_
                        have BK211 := n2_
                        have HB := n3_
                        clear n0_ n1_ n2_ n3_
                        have p220 : 0 ≤ ((ji50) : Int) := of_decide_eq_true (by xas_)
                        have q220 : (ji50) < (l0.length : Int) := of_decide_eq_true (by xas_)
                        obtain ⟨ad220, e220, hx220_0⟩ := Kd.at_int HR0.out (ji50) p220 q220
                        have hw220_0 := hx220_0
                        obtain rfl : ad201 = ad220 := (by injection e220)
                        replace hx220_0 := (HB.out.cell (World.block_lt_of_cell? w _ hx220_0)).trans hx220_0
                        replace p220 := eq_true p220
                        replace q220 := eq_true q220
                        refine start_ (n := 14) (S := fun w' => w'.cell? ⟨gb211, 0, none⟩ = some (.int .i64 (wrap64 (rd l0 4))) ∧ w'.cell? ⟨gb211, 1, none⟩ = some (u212001) ∧ w'.cell? ⟨gb211, 2, none⟩ = some (.slice none 0 0) ∧ w'.cell? ⟨gb211, 3, none⟩ = some (.slice none 0 0) ∧ w'.cell? (ad201.add ((ji50)).toNat) = some (.int .u8 (rd l0 (ji50)))) (ds := [13]) #[false, false, false, false, false, false, false, false, false, false, false, false, false, false] (by kernel_rfl) rfl rfl ⟨(blk_cell BK211.out 0).trans rfl, (blk_cell BK211.out 1).trans rfl, (blk_cell BK211.out 2).trans rfl, (blk_cell BK211.out 3).trans rfl, ((HB.out.cell (World.block_lt_of_cell? w _ hw220_0)).trans hw220_0)⟩ (fun hHeld => ?_); refine with_tabW table_Decode.tab15 table_Decode.bits15 (fun HT_ HW_ => ?_)
                        generalize wr.drew = w54 at HO_212001 BK196 BK211 HB hx220_0 hHeld ⊢
                        refine pure_ (i := 0) (N := some 80) (v := ?_) (a' := ?_) #[true, false, false, false, false, false, false, false, false, false, false, false, false, false] rfl rfl (any_of HT_.out (by kernel_rfl)) (fun _ _ _ h => h) (Or.inl ⟨by rfl, ?_⟩) ?_ ?_
                        rotate_left
                        ·intro w'
                         go_simp
                         with_reducible rfl
                        rotate_left
                        ·xsp_ i64_w i32_w
                         rfl
                        refine pure_ (i := 2) (N := some 82) (v := ?_) (a' := ?_) #[true, false, true, false, false, false, false, false, false, false, false, false, false, false] rfl rfl (any_of HT_.out (by kernel_rfl)) (fun _ _ _ h => h) (Or.inl ⟨by rfl, ?_⟩) ?_ ?_
                        rotate_left
                        ·intro w'
                         go_simp
                         with_reducible rfl
                        rotate_left
                        ·xsp_ i64_w i32_w
                         rfl
                        refine pure_ (i := 3) (N := some 83) (v := ?_) (a' := ?_) #[true, false, true, true, false, false, false, false, false, false, false, false, false, false] rfl rfl (any_of HT_.out (by kernel_rfl)) (fun _ _ _ h => h) (Or.inl ⟨by rfl, ?_⟩) ?_ ?_
                        rotate_left
                        ·intro w'
                         go_simp
                         with_reducible rfl
                        rotate_left
                        ·xsp_ i64_w i32_w
                         rfl
                        refine pure_ (i := 4) (N := some 84) (v := ?_) (a' := ?_) #[true, false, true, true, true, false, false, false, false, false, false, false, false, false] rfl rfl (any_of HT_.out (by kernel_rfl)) (fun _ _ _ h => h) (Or.inl ⟨by rfl, ?_⟩) ?_ ?_
                        rotate_left
                        ·intro w'
                         go_simp
                         with_reducible rfl
                        rotate_left
                        ·xsp_ i64_w i32_w
                         rfl
                        refine pure_ (i := 5) (N := some 85) (v := ?_) (a' := ?_) #[true, false, true, true, true, true, false, false, false, false, false, false, false, false] rfl rfl (any_of HT_.out (by kernel_rfl)) (fun _ _ _ h => h) (Or.inl ⟨by rfl, ?_⟩) ?_ ?_
                        rotate_left
                        ·intro w'
                         go_simp
                         with_reducible rfl
                        rotate_left
                        ·xsp_ i64_w i32_w
                         rfl
                        refine pure_ (i := 6) (N := some 86) (v := ?_) (a' := ?_) #[true, false, true, true, true, true, true, false, false, false, false, false, false, false] rfl rfl (any_of HT_.out (by kernel_rfl)) (fun _ _ _ h => h) (Or.inl ⟨by rfl, ?_⟩) ?_ ?_
                        rotate_left
                        ·intro w'
                         go_simp
                         with_reducible rfl
                        rotate_left
                        ·xsp_ i64_w i32_w
                         rfl
                        refine take_ (i := 1) (N := some 81) (v := ?_) (a' := ?_) #[true, true, true, true, true, true, true, false, false, false, false, false, false, false] rfl rfl (take_ofW HT_.out HW_.out (by kernel_rfl)) (fun _ _ _ h => h) (Or.inl ⟨by rfl, ?_⟩) hHeld ?_ ?_
                        rotate_left
                        ·rintro w' ⟨s0, s1, s2, s3, s4⟩
                         go_simp
                         with_reducible rfl
                        rotate_left
                        ·xsp_ i64_w i32_w
                         rfl
                        refine take_ (i := 7) (N := some 87) (v := ?_) (a' := ?_) #[true, true, true, true, true, true, true, true, false, false, false, false, false, false] rfl rfl (take_ofW HT_.out HW_.out (by kernel_rfl)) (fun _ _ _ h => h) (Or.inl ⟨by rfl, ?_⟩) hHeld ?_ ?_
                        rotate_left
                        ·rintro w' ⟨s0, s1, s2, s3, s4⟩
                         go_simp
                         with_reducible rfl
                        rotate_left
                        ·xsp_ i64_w i32_w
                         rfl
                        refine pure_ (i := 8) (N := some 88) (v := ?_) (a' := ?_) #[true, true, true, true, true, true, true, true, true, false, false, false, false, false] rfl rfl (any_of HT_.out (by kernel_rfl)) (fun _ _ _ h => h) (Or.inl ⟨by rfl, ?_⟩) ?_ ?_
                        rotate_left
                        ·intro w'
                         go_simp
                         with_reducible rfl
                        rotate_left
                        ·xsp_ i64_w i32_w
                         rfl
                        refine pure_ (i := 9) (N := some 89) (v := ?_) (a' := ?_) #[true, true, true, true, true, true, true, true, true, true, false, false, false, false] rfl rfl (any_of HT_.out (by kernel_rfl)) (fun _ _ _ h => h) (Or.inl ⟨by rfl, ?_⟩) ?_ ?_
                        rotate_left
                        ·intro w'
                         go_simp
                         with_reducible rfl
                        rotate_left
                        ·xsp_ i64_w i32_w
                         rfl
                        refine one_ (i := 10) (N := some 90) #[true, true, true, true, true, true, true, true, true, true, true, false, false, false] rfl rfl (one_of HT_.out (by kernel_rfl)) (by decide) (fun K hK => ?_)
                        refine value_ (w1 := ?_) (v := ?_) (by rfl) rfl ?_ ?_
                        rotate_left 2
                        ·go_simp
                         constructor
                         ·rfl
                         ·rfl
                        refine hK.out _ _ ⟨(blk_cell (blk_alloc BK211.out _) 0).trans rfl, (blk_cell (blk_alloc BK211.out _) 1).trans rfl, (blk_cell (blk_alloc BK211.out _) 2).trans rfl, (blk_cell (blk_alloc BK211.out _) 3).trans rfl, (World.cell?_alloc_lt _ _ _ (World.block_lt_of_cell? _ _ (((HB.out.cell (World.block_lt_of_cell? w _ hw220_0)).trans hw220_0)))).trans (((HB.out.cell (World.block_lt_of_cell? w _ hw220_0)).trans hw220_0))⟩ (fun hHeld => ?_)
                        clear hK K
                        refine norm_ (a' := ?_) ?_ ?_
                        rotate_left
                        ·show Act.put _ (some 90) _ = _
                         xsp_ i64_w i32_w
                         rfl
                        refine one_ (i := 11) (N := some 91) #[true, true, true, true, true, true, true, true, true, true, true, true, false, false] rfl rfl (one_of HT_.out (by kernel_rfl)) (by decide) (fun K hK => ?_)
                        refine Kd.R_append_step k52 (w0 := w) w.heap.size (by rfl) (.tmp 81) (.tmp 90) 22 52 (.agg #[(.int .i64 0), (.int .i64 0)]) 16 rfl Try.underlying22 info52 rfl (by decide) (by omega) u212001 x212001_2 (⟨t218, wrap64 (rd l0 (ji50))⟩ : S52) [.int .i64 t218, .int .i64 (wrap64 (rd l0 (ji50)))] (fun _ => True) (fun _ => False) rfl rfl ?aP (fun _ hk => hk.elim) ?aF ?aO ?aB ?aS ?aL ?_
                        (case aP => exact k52_mkM _ _ _ (⟨t218, wrap64 (rd l0 (ji50))⟩ : S52))
                        (case aB => exact (by repeat (first | (with_reducible first | exact HB.out | apply below_alloc | apply pw_below_drewN | apply below_drew1 | refine below_set ?_ GE196.out | refine below_set ?_ GE211.out) | exact HB.out)))
                        (case aF => exact (fun _ _ => trivial))
                        (case aO => exact (by xkR_; exact HO_212001.out))
                        (case aS => exact (below_size (by repeat (first | (with_reducible first | exact HB.out | apply below_alloc | apply pw_below_drewN | apply below_drew1 | refine below_set ?_ GE196.out | refine below_set ?_ GE211.out) | exact HB.out))))
                        (case aL => have := LMc53.out; omega)
                        intro v222 w55 ho hb hg hat
                        rw [← Ny221.out] at ho
                        have n0_ := Aside0.mk (blk_grown (g := gb196) (o := .cells #[.int .i64 0, .slice none 0 0, .slice none 0 0, .slice none 0 0] 26 (0, 0)) (by xkb_; exact BK196.out) hg (Kd.R_ne HO_212001.out BK196.out (by decide)))
                        have n1_ := Aside0.mk (blk_grown (g := gb211) (o := .cells #[.int .i64 (wrap64 (rd l0 4)), u212001, .slice none 0 0, .slice none 0 0] 26 (0, 0)) (by xkb_; exact BK211.out) hg (Kd.R_ne HO_212001.out BK211.out (by decide)))
                        have n2_ := Aside0.mk (hb)
                        have n3_ := Aside0.mk (ho)
                        clear BK196
                        clear BK211
                        clear HB
                        clear HO_212001
                        have BK196 := n0_
                        have BK211 := n1_
                        have HB := n2_
                        have HO223 := n3_
                        clear n0_ n1_ n2_ n3_
                        clear ho hb hg hat
                        obtain ⟨Ao56, co56, eo56⟩ := Kd.R_slice HO223.out
                        (first | subst eo56 | (injection eo56 with f1_ f2_ f3_; have f4_ := f1_.symm; have f5_ := f3_.symm; clear f1_ f2_ f3_; subst f4_; subst f5_))
                        refine hK.out _ _ ⟨(blk_cell BK211.out 0).trans rfl, (blk_cell BK211.out 1).trans rfl, (blk_cell BK211.out 2).trans rfl, (blk_cell BK211.out 3).trans rfl, ((HB.out.cell (World.block_lt_of_cell? w _ hw220_0)).trans hw220_0)⟩ (fun hHeld => ?_)
                        clear hK K
                        refine norm_ (a' := ?_) ?_ ?_
                        rotate_left
                        ·show Act.put _ (some 91) _ = _
                         xsp_ i64_w i32_w
                         rfl
                        refine pure_ (i := 12) (N := some 92) (v := ?_) (a' := ?_) #[true, true, true, true, true, true, true, true, true, true, true, true, true, false] rfl rfl (any_of HT_.out (by kernel_rfl)) (fun _ _ _ h => h) (Or.inl ⟨by rfl, ?_⟩) ?_ ?_
                        rotate_left
                        ·intro w'
                         go_simp
                         with_reducible rfl
                        rotate_left
                        ·xsp_ i64_w i32_w
                         rfl
                        refine last_ (i := 13) (N := none) #[true, true, true, true, true, true, true, true, true, true, true, true, true, true] rfl rfl (one_of HT_.out (by kernel_rfl)) (by decide) (fun K hK => ?_)
                        have hs57 : w55.cell? ⟨gb211, 1, none⟩ = some (u212001) := (blk_cell BK211.out 1).trans rfl
                        have hfs57 := blk_frozen BK211.out 1
                        have hns57_0 := NB196_211.out
                        have hms57_0 := NB211_196.out
                        refine skip_ (w1 := ?_) (by rfl) rfl ?_ ?_
                        rotate_left
                        ·go_simp
                         rfl
                        refine hK.out _ _ ?_
                        clear hK K
                        refine done_ (done_of HT_.out (by kernel_rfl)) ?_
                        try go_wp2
                        go_roundg k2
                        case measure => have := HJ19.out; have := HK2.out; omega
                        case rel => exact ⟨(wrap64 (x7_2 + 4)), (wrap64 (x72_2 + 1)), (y221), (.slice Ao56 y221.length co56), (by xrs_), (by xrs_), H', ⟨by have := HJ19.out; have := HK2.out; omega⟩, ⟨by xkR_; exact Kd.R_mono (Kd.R_far (p := ⟨gb211, 1, none⟩) (Kd.R_types HO223.out BK211.out (by decide)) (fun _ hk => hk.2) (.slice Ao56 y221.length co56)) (fun _ hk => trivial)⟩, ⟨by xkb_; refine blk_far ?_ NB196_211.out _; xkb_; exact BK196.out⟩, ⟨by xkb_; refine blk_put (cs := #[.int .i64 (wrap64 (rd l0 4)), u212001, .slice none 0 0, .slice none 0 0]) ?_ 1 _ rfl; xkb_; exact BK211.out⟩, ⟨by repeat (first | (with_reducible first | exact HB.out | apply below_alloc | apply pw_below_drewN | apply below_drew1 | refine below_set ?_ GE196.out | refine below_set ?_ GE211.out) | exact HB.out)⟩⟩
                       ·rw [if_neg c53] at H
                        exact absurd H (by simp)
                      ·rw [if_neg c52] at H
                       exact absurd H (by simp)
                     ·rw [if_neg c51] at H
                      exact absurd H (by simp)
                    ·rw [if_neg c48] at H
                     have c48b0 : decide (x72_2 < (wrap64 (rd l0 6))) = false := decide_eq_false c48
                     clear c48
                     have H' := Aside0.mk H
                     clear H
                     go_wp2
                     go_loopg [7, 97] k2 (fun kq v7 v97 w' => ∃ (x7_3 : Int) (x97_3 : Int) (x212002_3 : List (List Int)) (u212002 : Value), v7 = .int .i64 x7_3 ∧ v97 = .int .i64 x97_3 ∧ Aside0 (table_Decode.l1 kq l0 (wrap64 (rd l0 5)) x7_3 (wrap64 (rd l0 5)) x97_3 (wrap64 (rd l0 4)) x212001_2 x212002_3 = some (r1, r2, r3, r4, r5)) ∧ Aside0 (kq ≤ k2) ∧ Aside0 (Kd.R k52 52 w' w.heap.size (fun _ => True) u212001 x212001_2) ∧ Aside0 (Kd.S (Kd.slice 3 (Kd.int .i64)) 53 w' w.heap.size (fun _ => True) u212002 x212002_3) ∧ Aside0 (w'.heap[gb196]? = some (.cells #[.int .i64 0, (.slice none 0 0), (.slice none 0 0), (.slice none 0 0)] 26 (0, 0))) ∧ Aside0 (w'.heap[gb211]? = some (.cells #[.int .i64 (wrap64 (rd l0 4)), u212001, u212002, (.slice none 0 0)] 26 (0, 0))) ∧ Aside0 (Below w.heap.size w w'))
                     case atStart => exact ⟨(x7_2), (0), (([] : List (List Int))), (.slice none 0 0), (by xrs_), (by xrs_), H', ⟨Nat.le_refl _⟩, ⟨by xkR_; exact HO_212001.out⟩, ⟨by first | exact Kd.S_nil _ _ _ _ _ | exact Kd.N_nil _ _ _ _ _ | exact Kd.V_nil _ _ _ _ _ | exact Kd.Q_nil _ _ _ _ _ | exact Kd.R_nil _ _ _ _ _⟩, ⟨by xkb_; exact BK196.out⟩, ⟨by xkb_; exact BK211.out⟩, ⟨by repeat (first | (with_reducible first | exact HB.out | apply below_alloc | apply pw_below_drewN | apply below_drew1 | refine below_set ?_ GE196.out | refine below_set ?_ GE211.out) | exact HB.out)⟩⟩
                     case round =>
                      clear H'
                      xcl_ c1 c2 c2b0 c2b1 p2 q2 hx2 qi2 c3 c4 c5 c5b0 c5b1 c6 c6b0 c6b1 p6 c7 c7b0 c7b1 c8 c8b0 c8b1 c9 c9b0 c9b1 c11 c11b0 c11b1 c12 c12b0 c12b1 c13 c13b0 c13b1 c14 c14b0 c14b1 c16 c17 c17b0 c17b1 c18 c18b0 c18b1 c19 c19b0 c19b1 p20 q20 hx20 qi20 p21 q21 hx21 qi21 p22 q22 hx22 q23 c26 c31 c32 c33 c34 c35 c37 c39 c41 c43 c45 c46 c48 c48b0 c51 c51b0 c52 c52b0 c53 hcz27_0 hcz27_1 hcz27_2 hcz27_3 hcz38_0 hcz38_1 hcz38_2 hcz38_3 hcz40_0 hcz40_1 hcz40_2 hcz40_3 hcz42_0 hcz42_1 hcz42_2 hcz42_3 hcz44_0 hcz44_1 hcz44_2 hcz44_3 hcz47_0 hcz47_1 hcz47_2 hcz47_3 hcz4_0 hcz4_1 hcz4_2 hcz4_3 hfz27_0 hfz27_1 hfz27_2 hfz27_3 hfz38_0 hfz38_1 hfz38_2 hfz38_3 hfz40_0 hfz40_1 hfz40_2 hfz40_3 hfz42_0 hfz42_1 hfz42_2 hfz42_3 hfz44_0 hfz44_1 hfz44_2 hfz44_3 hfz47_0 hfz47_1 hfz47_2 hfz47_3 hfz4_0 hfz4_1 hfz4_2 hfz4_3 hx201_0 hx202_0 hx203_0 hx204_0 hx210_0 hx212_0 hx213_0 hx220_0 p2 p20 p201 p202 p203 p204 p21 p210 p212 p213 p220 p6 q2 q20 q201 q202 q203 q204 q21 q210 q212 q213 q220 q23
                      obtain ⟨x7_3, x97_3, x212002_3, u212002, rfl, rfl, HA, HK3, HO_212001, HO_212002, BK196, BK211, HB⟩ := hrel
                      cases gk with
                      | zero => exact absurd HA.out (by simp [table_Decode.l1])
                      | succ k3 =>
                       have H := HA.out
                       clear HA
                       simp only [table_Decode.l1] at H
                       by_cases c58 : x97_3 < (wrap64 (rd l0 5))
                       ·rw [if_pos c58] at H
                        have c58b0 : decide (x97_3 < (wrap64 (rd l0 5))) = true := decide_eq_true c58
                        clear c58
                        by_cases c59 : 0 ≤ x7_3
                        ·rw [if_pos c59] at H
                         have c59b0 := eq_true c59
                         have c59b1 : decide (0 ≤ x7_3) = true := decide_eq_true c59
                         clear c59
                         by_cases c60 : x7_3 ≤ (wrap64 (x7_3 + (wrap64 (rd l0 4))))
                         ·rw [if_pos c60] at H
                          have c60b0 := eq_true c60
                          have c60b1 : decide (x7_3 ≤ (wrap64 (x7_3 + (wrap64 (rd l0 4))))) = true := decide_eq_true c60
                          by_cases c61 : (wrap64 (x7_3 + (wrap64 (rd l0 4)))) ≤ (l0.length : Int)
                          ·rw [if_pos c61] at H
                           have c61b0 := eq_true c61
                           have c61b1 : decide ((wrap64 (x7_3 + (wrap64 (rd l0 4)))) ≤ (l0.length : Int)) = true := decide_eq_true c61
                           obtain ⟨y232, hy232⟩ : ∃ y_ : List Int, y_ = ((l0.take ((wrap64 (x7_3 + (wrap64 (rd l0 4)))) : Int).toNat).drop (x7_3 : Int).toNat) := ⟨_, rfl⟩
                           replace H : (table_Decode.l2 k3 l0 (wrap64 (rd l0 5)) x7_3 ([] : List Int) (wrap64 (rd l0 5)) x97_3 y232 (y232.length : Int) 0 (wrap64 (rd l0 4)) x212001_2 x212002_3) = some (r1, r2, r3, r4, r5) := by first | (rw [hy232]; with_reducible exact H) | (have H2_ := (Option.bind_some _ _).symm.trans H; rw [hy232]; with_reducible exact H2_) | (have H2_ := (Option.bind_some _ _).symm.trans H; with_reducible exact H2_) | with_reducible exact H | (rw [hy232]; exact H) | exact H
                           have Ny232 := Aside0.mk hy232
                           clear hy232
                           have H' := Aside0.mk H
                           clear H
                           have hnb62 := NB211_196.out
                           have hnc62 := NB196_211.out
                           have hcz63_0 : wr.cell? ⟨gb211, 0, none⟩ = some (.int .i64 (wrap64 (rd l0 4))) := (blk_cell BK211.out 0).trans rfl
                           have hcz63_1 : wr.cell? ⟨gb211, 1, none⟩ = some (u212001) := (blk_cell BK211.out 1).trans rfl
                           have hcz63_2 : wr.cell? ⟨gb211, 2, none⟩ = some (u212002) := (blk_cell BK211.out 2).trans rfl
                           have hcz63_3 : wr.cell? ⟨gb211, 3, none⟩ = some (.slice none 0 0) := (blk_cell BK211.out 3).trans rfl
                           have hfz63_0 := blk_frozen BK211.out 0
                           have hfz63_1 := blk_frozen BK211.out 1
                           have hfz63_2 := blk_frozen BK211.out 2
                           have hfz63_3 := blk_frozen BK211.out 3
                           have q64 : ((wrap64 (x7_3 + (wrap64 (rd l0 4)))) : Int) ≤ ((l0.length : Int) : Int) := of_decide_eq_true (by xas_)
                           obtain ⟨i064, hi064, _, hsz64, _⟩ := info_parts info5
                           have hroom64 : l0.length ≤ c0 := HC0.out
                           have hC64 : Kd.C (Kd.int .u8) _ (some ad201) l0.length l0 := HR0.out
                           have ql64 : (x7_3 : Int) ≤ ((wrap64 (x7_3 + (wrap64 (rd l0 4)))) : Int) := of_decide_eq_true (by xas_)
                           have q064 : (0 : Int) ≤ (x7_3 : Int) := of_decide_eq_true (by xas_)
                           have hcut64 := cut_mid (P := Try.prog) 27 5 .i64 .i64 Try.underlying27 hi064 1 hsz64 (some ad201) l0.length c0 x7_3 (wrap64 (x7_3 + (wrap64 (rd l0 4)))) q064 ql64 q64 hroom64
                           have hr64 := Kd.C_mid (lo := (x7_3 : Int).toNat) (hi := ((wrap64 (x7_3 + (wrap64 (rd l0 4)))) : Int).toNat) (c := c0) hC64 (by omega) (by omega) hroom64
                           obtain ⟨A64, hA64⟩ : ∃ A1, A1 = (if c0 = (x7_3 : Int).toNat then (some ad201) else ((some ad201) : Option Addr).map (·.add ((x7_3 : Int).toNat * 1))) := ⟨_, rfl⟩
                           obtain ⟨c64, hc64⟩ : ∃ c1, c1 = c0 - (x7_3 : Int).toNat := ⟨_, rfl⟩
                           have hy64 : y232.length = ((wrap64 (x7_3 + (wrap64 (rd l0 4)))) : Int).toNat - (x7_3 : Int).toNat := (by rw [Ny232.out, List.length_drop, List.length_take] <;> omega)
                           rw [show ((l0).take ((wrap64 (x7_3 + (wrap64 (rd l0 4)))) : Int).toNat).drop (x7_3 : Int).toNat = y232 from Ny232.out.symm] at hr64
                           replace hr64 : Kd.C (Kd.int .u8) _ A64 y232.length y232 := (by rw [hA64]; exact hr64)
                           rw [← hy64, ← hA64, ← hc64] at hcut64
                           have HR235 := Aside0.mk hr64
                           have HC235 := Aside0.mk (show y232.length ≤ c64 from by rw [hy64, hc64]; exact Nat.sub_le_sub_right (Nat.le_trans (by omega) hroom64) _)
                           clear hr64 hC64 hroom64 hi064 hsz64 hc64
                           have KY64 := Aside0.mk hy64
                           have KA64 := Aside0.mk hA64
                           clear hy64 hA64
                           replace q64 := eq_true q64
                           go_wp2
                           go_loopg [10, 107] k3 (fun kq v10 v107 w' => ∃ (x10_4 : List Int) (x107_4 : Int), v107 = .int .i64 x107_4 ∧ Aside0 (table_Decode.l2 kq l0 (wrap64 (rd l0 5)) x7_3 x10_4 (wrap64 (rd l0 5)) x97_3 y232 (y232.length : Int) x107_4 (wrap64 (rd l0 4)) x212001_2 x212002_3 = some (r1, r2, r3, r4, r5)) ∧ Aside0 (kq ≤ k3) ∧ Aside0 (Kd.R (Kd.int .i64) 3 w' w.heap.size (fun _ => True) v10 x10_4) ∧ Aside0 (Kd.R k52 52 w' w.heap.size (fun _ => True) u212001 x212001_2) ∧ Aside0 (Kd.S (Kd.slice 3 (Kd.int .i64)) 53 w' w.heap.size (fun k_ => some k_ ≠ (v10 : Value).ownBlock) u212002 x212002_3) ∧ Aside0 (w'.heap[gb196]? = some (.cells #[.int .i64 0, (.slice none 0 0), (.slice none 0 0), (.slice none 0 0)] 26 (0, 0))) ∧ Aside0 (w'.heap[gb211]? = some (.cells #[.int .i64 (wrap64 (rd l0 4)), u212001, u212002, (.slice none 0 0)] 26 (0, 0))) ∧ Aside0 (Below w.heap.size w w'))
                           case atStart => exact ⟨(([] : List Int)), (0), (by xrs_), H', ⟨Nat.le_refl _⟩, ⟨by xni_⟩, ⟨by xkR_; exact HO_212001.out⟩, ⟨by xkS_; exact Kd.S_mono HO_212002.out (fun _ hk => (by simp [Value.ownBlock]))⟩, ⟨by xkb_; exact BK196.out⟩, ⟨by xkb_; exact BK211.out⟩, ⟨by repeat (first | (with_reducible first | exact HB.out | apply below_alloc | apply pw_below_drewN | apply below_drew1 | refine below_set ?_ GE196.out | refine below_set ?_ GE211.out) | exact HB.out)⟩⟩
                           case round =>
                            clear H'
                            xcl_ c1 c2 c2b0 c2b1 p2 q2 hx2 qi2 c3 c4 c5 c5b0 c5b1 c6 c6b0 c6b1 p6 q6 c7 c7b0 c7b1 c8 c8b0 c8b1 c9 c9b0 c9b1 c11 c11b0 c11b1 c12 c12b0 c12b1 c13 c13b0 c13b1 c14 c14b0 c14b1 c16 c17 c17b0 c17b1 c18 c18b0 c18b1 c19 c19b0 c19b1 p20 q20 hx20 qi20 p21 q21 hx21 qi21 p22 q22 hx22 q23 c26 c31 c32 c33 c34 c35 c37 c39 c41 c43 c45 c46 c48 c48b0 c51 c51b0 c52 c52b0 c53 c58 c58b0 c59 c59b0 c59b1 c60 c60b0 c60b1 c61 c61b0 c61b1 c62 c64 p64 q64 hcz27_0 hcz27_1 hcz27_2 hcz27_3 hcz38_0 hcz38_1 hcz38_2 hcz38_3 hcz40_0 hcz40_1 hcz40_2 hcz40_3 hcz42_0 hcz42_1 hcz42_2 hcz42_3 hcz44_0 hcz44_1 hcz44_2 hcz44_3 hcz47_0 hcz47_1 hcz47_2 hcz47_3 hcz4_0 hcz4_1 hcz4_2 hcz4_3 hcz63_0 hcz63_1 hcz63_2 hcz63_3 hfz27_0 hfz27_1 hfz27_2 hfz27_3 hfz38_0 hfz38_1 hfz38_2 hfz38_3 hfz40_0 hfz40_1 hfz40_2 hfz40_3 hfz42_0 hfz42_1 hfz42_2 hfz42_3 hfz44_0 hfz44_1 hfz44_2 hfz44_3 hfz47_0 hfz47_1 hfz47_2 hfz47_3 hfz4_0 hfz4_1 hfz4_2 hfz4_3 hfz63_0 hfz63_1 hfz63_2 hfz63_3 hx201_0 hx202_0 hx203_0 hx204_0 hx210_0 hx212_0 hx213_0 hx220_0 p2 p20 p201 p202 p203 p204 p21 p210 p212 p213 p22 p220 p6 q064 q2 q20 q201 q202 q203 q204 q21 q210 q212 q213 q22 q220 q23 q64
                            obtain ⟨x10_4, x107_4, rfl, HA, HK4, HO_10, HO_212001, HO_212002, BK196, BK211, HB⟩ := hrel
                            cases gk with
                            | zero => exact absurd HA.out (by simp [table_Decode.l2])
                            | succ k4 =>
                             have H := HA.out
                             clear HA
                             simp only [table_Decode.l2] at H
                             by_cases c65 : x107_4 < (y232.length : Int)
                             ·rw [if_pos c65] at H
                              have c65b0 : decide (x107_4 < (y232.length : Int)) = true := decide_eq_true c65
                              clear c65
                              by_cases c66 : 0 ≤ x107_4
                              ·rw [if_pos c66] at H
                               have c66b0 : decide (0 ≤ x107_4) = true := decide_eq_true c66
                               clear c66
                               by_cases c67 : x107_4 < (y232.length : Int)
                               ·rw [if_pos c67] at H
                                have c67b0 : decide (x107_4 < (y232.length : Int)) = true := decide_eq_true c67
                                clear c67
                                by_cases c68 : x10_4.length < 17592186044416
                                ·rw [if_pos c68] at H
                                 have LMc68 := Aside0.mk c68
                                 clear c68
                                 obtain ⟨y237, hy237⟩ : ∃ y_ : List Int, y_ = (x10_4 ++ [wrap64 (rd y232 x107_4)]) := ⟨_, rfl⟩
                                 replace H : (table_Decode.l2 k4 l0 (wrap64 (rd l0 5)) x7_3 y237 (wrap64 (rd l0 5)) x97_3 y232 (y232.length : Int) (wrap64 (x107_4 + 1)) (wrap64 (rd l0 4)) x212001_2 x212002_3) = some (r1, r2, r3, r4, r5) := by first | (rw [hy237]; with_reducible exact H) | (have H2_ := (Option.bind_some _ _).symm.trans H; rw [hy237]; with_reducible exact H2_) | (have H2_ := (Option.bind_some _ _).symm.trans H; with_reducible exact H2_) | with_reducible exact H | (rw [hy237]; exact H) | exact H
                                 have Ny237 := Aside0.mk hy237
                                 clear hy237
                                 have H' := Aside0.mk H
                                 clear H
                                 have p236 : 0 ≤ (x107_4 : Int) := of_decide_eq_true (by xas_)
                                 have q236 : x107_4 < (y232.length : Int) := of_decide_eq_true (by xas_)
                                 obtain ⟨ad236, e236, hx236_0⟩ := Kd.at_int HR235.out x107_4 p236 q236
                                 cases e236
                                 replace hx236_0 := (HB.out.cell (World.block_lt_of_cell? w _ hx236_0)).trans hx236_0
                                 replace p236 := eq_true p236
                                 replace q236 := eq_true q236
                                 go_wp2_with (first | ((with_reducible refine gate_builtin (b := .append) (xs := #[.tmp 111, .tmp 114]) rfl ?_); xgg_; at_builtin; refine Kd.R_append (Kd.int .i64) (w0 := w) w.heap.size rfl (.tmp 111) (.tmp 114) 53 3 (.int .i64 0) 8 rfl Try.underlying53 info3 rfl (by decide) (by omega) u10 x10_4 (wrap64 (rd y232 x107_4)) [.int .i64 (wrap64 (rd y232 x107_4))] (fun _ => True) (fun _ => False) rfl rfl ?aP (fun _ hk => hk.elim) ?aF ?aO ?aB ?aS ?aL ?_; (case aP => exact rfl); (case aB => exact (by repeat (first | (with_reducible first | exact HB.out | apply below_alloc | apply pw_below_drewN | apply below_drew1 | refine below_set ?_ GE196.out | refine below_set ?_ GE211.out) | exact HB.out))); (case aF => exact (fun _ _ => trivial)); (case aO => exact (by xkR_; exact HO_10.out)); (case aS => exact (below_size (by repeat (first | (with_reducible first | exact HB.out | apply below_alloc | apply pw_below_drewN | apply below_drew1 | refine below_set ?_ GE196.out | refine below_set ?_ GE211.out) | exact HB.out)))); (case aL => have := LMc68.out; omega); intro v238 w69 ho hb hg hat; rw [← Ny237.out] at ho; have n0_ := Aside0.mk (Kd.R_over' (by xkR_; exact HO_212001.out) (Kd.R_typed (by xkR_; exact HO_10.out)) (by decide) hg); have n1_ := Aside0.mk (Kd.S_after (ok := (fun _ => True)) (by xkS_; exact Kd.S_mono HO_212002.out (fun _ hk => ⟨trivial, hk⟩)) hg hat); have n2_ := Aside0.mk (blk_grown (g := gb196) (o := .cells #[.int .i64 0, .slice none 0 0, .slice none 0 0, .slice none 0 0] 26 (0, 0)) (by xkb_; exact BK196.out) hg (Kd.R_ne HO_10.out BK196.out (by decide))); have n3_ := Aside0.mk (blk_grown (g := gb211) (o := .cells #[.int .i64 (wrap64 (rd l0 4)), u212001, u212002, .slice none 0 0] 26 (0, 0)) (by xkb_; exact BK211.out) hg (Kd.R_ne HO_10.out BK211.out (by decide))); have n4_ := Aside0.mk (hb); have n5_ := Aside0.mk (ho); clear HO_212001; clear HO_212002; clear BK196; clear BK211; clear HB; clear HO_10; have HO_212001 := n0_; have HO_212002 := n1_; have BK196 := n2_; have BK211 := n3_; have HB := n4_; have HO239 := n5_; clear n0_ n1_ n2_ n3_ n4_ n5_; clear ho hb hg hat))
                                 go_roundg k4
                                 case measure => have := HJ19.out; have := HK2.out; have := HK3.out; have := HK4.out; omega
                                 case rel => exact ⟨(y237), (wrap64 (x107_4 + 1)), (by xrs_), H', ⟨by have := HJ19.out; have := HK2.out; have := HK3.out; have := HK4.out; omega⟩, ⟨by xkR_; exact HO239.out⟩, ⟨by xkR_; exact HO_212001.out⟩, ⟨by xkS_; exact Kd.S_mono HO_212002.out (fun _ hk => hk.2)⟩, ⟨by xkb_; exact BK196.out⟩, ⟨by xkb_; exact BK211.out⟩, ⟨by repeat (first | (with_reducible first | exact HB.out | apply below_alloc | apply pw_below_drewN | apply below_drew1 | refine below_set ?_ GE196.out | refine below_set ?_ GE211.out) | exact HB.out)⟩⟩
                                ·rw [if_neg c68] at H
                                 exact absurd H (by simp)
                               ·rw [if_neg c67] at H
                                exact absurd H (by simp)
                              ·rw [if_neg c66] at H
                               exact absurd H (by simp)
                             ·rw [if_neg c65] at H
                              have c65b0 : decide (x107_4 < (y232.length : Int)) = false := decide_eq_false c65
                              clear c65
                              by_cases c70 : x212002_3.length < 5864062014805
                              ·rw [if_pos c70] at H
                               have LMc70 := Aside0.mk c70
                               clear c70
                               obtain ⟨y240, hy240⟩ : ∃ y_ : List (List Int), y_ = (x212002_3 ++ [x10_4]) := ⟨_, rfl⟩
                               replace H : (table_Decode.l1 k4 l0 (wrap64 (rd l0 5)) (wrap64 (x7_3 + (wrap64 (rd l0 4)))) (wrap64 (rd l0 5)) (wrap64 (x97_3 + 1)) (wrap64 (rd l0 4)) x212001_2 y240) = some (r1, r2, r3, r4, r5) := by first | (rw [hy240]; with_reducible exact H) | (have H2_ := (Option.bind_some _ _).symm.trans H; rw [hy240]; with_reducible exact H2_) | (have H2_ := (Option.bind_some _ _).symm.trans H; with_reducible exact H2_) | with_reducible exact H | (rw [hy240]; exact H) | exact H
                               have Ny240 := Aside0.mk hy240
                               clear hy240
                               have H' := Aside0.mk H
                               clear H
                               have hnb71 := NB211_196.out
                               have hnc71 := NB196_211.out
                               have hcz72_0 : wr.cell? ⟨gb211, 0, none⟩ = some (.int .i64 (wrap64 (rd l0 4))) := (blk_cell BK211.out 0).trans rfl
                               have hcz72_1 : wr.cell? ⟨gb211, 1, none⟩ = some (u212001) := (blk_cell BK211.out 1).trans rfl
                               have hcz72_2 : wr.cell? ⟨gb211, 2, none⟩ = some (u212002) := (blk_cell BK211.out 2).trans rfl
                               have hcz72_3 : wr.cell? ⟨gb211, 3, none⟩ = some (.slice none 0 0) := (blk_cell BK211.out 3).trans rfl
                               have hfz72_0 := blk_frozen BK211.out 0
                               have hfz72_1 := blk_frozen BK211.out 1
                               have hfz72_2 := blk_frozen BK211.out 2
                               have hfz72_3 := blk_frozen BK211.out 3
                               obtain ⟨Ao74, co74, eo74⟩ := Kd.R_slice HO_10.out
                               subst eo74
                               go_wp2_with (first | ((with_reducible refine gate_builtin (b := .append) (xs := #[.tmp 118, .tmp 120]) rfl ?_); xgg_; at_builtin; refine Kd.S_append (Kd.slice 3 (Kd.int .i64)) (w0 := w) w.heap.size rfl (.tmp 118) (.tmp 120) 23 53 (.slice none 0 0) 24 rfl Try.underlying23 info53 rfl (by decide) (by omega) u212002 x212002_3 x10_4 [.slice Ao74 x10_4.length co74] (fun _ => True) (fun k_ => some k_ = (.slice Ao74 x10_4.length co74 : Value).ownBlock) rfl rfl ?aP (fun k_ hk_ => ((Kd.R_mono (ok' := fun k_ => ((fun _ => True)) k_ ∧ some k_ ≠ (u212002 : Value).ownBlock) (Kd.R_apart' (HO_10.out) (Kd.S_typed HO_212002.out) (by decide)) (fun k_ hk => ⟨trivial, hk.2⟩))).1 k_ hk_.symm) ?aF ?aO ?aB ?aS ?aL ?_; (case aP => exact Kd.M_row (Kd.R_mono (Kd.R_tight rfl (Kd.R_mono (ok' := fun k_ => ((fun _ => True)) k_ ∧ some k_ ≠ (u212002 : Value).ownBlock) (Kd.R_apart' (HO_10.out) (Kd.S_typed HO_212002.out) (by decide)) (fun k_ hk => ⟨trivial, hk.2⟩))) (fun _ h_ => h_))); (case aB => exact (by repeat (first | (with_reducible first | exact HB.out | apply below_alloc | apply pw_below_drewN | apply below_drew1 | refine below_set ?_ GE196.out | refine below_set ?_ GE211.out) | exact HB.out))); (case aF => exact (fun _ _ => trivial)); (case aO => exact (by xkS_; exact Kd.S_mono HO_212002.out (fun k_ hk => ⟨trivial, fun e_ => hk e_⟩))); (case aS => exact (below_size (by repeat (first | (with_reducible first | exact HB.out | apply below_alloc | apply pw_below_drewN | apply below_drew1 | refine below_set ?_ GE196.out | refine below_set ?_ GE211.out) | exact HB.out)))); (case aL => have := LMc70.out; omega); intro v241 w73 ho hb hg hat; rw [← Ny240.out] at ho; have n0_ := Aside0.mk (Kd.R_over' (by xkR_; exact HO_212001.out) (Kd.S_typed (by xkS_; exact HO_212002.out)) (by decide) hg); have n1_ := Aside0.mk (blk_grown (g := gb196) (o := .cells #[.int .i64 0, .slice none 0 0, .slice none 0 0, .slice none 0 0] 26 (0, 0)) (by xkb_; exact BK196.out) hg (Kd.S_ne HO_212002.out BK196.out (by decide))); have n2_ := Aside0.mk (blk_grown (g := gb211) (o := .cells #[.int .i64 (wrap64 (rd l0 4)), u212001, u212002, .slice none 0 0] 26 (0, 0)) (by xkb_; exact BK211.out) hg (Kd.S_ne HO_212002.out BK211.out (by decide))); have n3_ := Aside0.mk (hb); have n4_ := Aside0.mk (ho); clear HO_212001; clear BK196; clear BK211; clear HB; clear HO_212002; clear HO_10; have HO_212001 := n0_; have BK196 := n1_; have BK211 := n2_; have HB := n3_; have HO242 := n4_; clear n0_ n1_ n2_ n3_ n4_; clear ho hb hg hat; obtain ⟨Ao75, co75, eo75⟩ := Kd.S_slice HO242.out; subst eo75; have hcz76_0 : w73.cell? ⟨gb211, 0, none⟩ = some (.int .i64 (wrap64 (rd l0 4))) := (blk_cell BK211.out 0).trans rfl; have hcz76_1 : w73.cell? ⟨gb211, 1, none⟩ = some (u212001) := (blk_cell BK211.out 1).trans rfl; have hcz76_2 : w73.cell? ⟨gb211, 2, none⟩ = some (u212002) := (blk_cell BK211.out 2).trans rfl; have hcz76_3 : w73.cell? ⟨gb211, 3, none⟩ = some (.slice none 0 0) := (blk_cell BK211.out 3).trans rfl; have hfz76_0 := blk_frozen BK211.out 0; have hfz76_1 := blk_frozen BK211.out 1; have hfz76_2 := blk_frozen BK211.out 2; have hfz76_3 := blk_frozen BK211.out 3))
                               go_roundg k4
                               case measure => have := HJ19.out; have := HK2.out; have := HK3.out; have := HK4.out; omega
                               case rel => exact ⟨(wrap64 (x7_3 + (wrap64 (rd l0 4)))), (wrap64 (x97_3 + 1)), (y240), (.slice Ao75 y240.length co75), (by xrs_), (by xrs_), H', ⟨by have := HJ19.out; have := HK2.out; have := HK3.out; have := HK4.out; omega⟩, ⟨by xkR_; exact Kd.R_mono (Kd.R_far (p := ⟨gb211, 2, none⟩) (Kd.R_types HO_212001.out BK211.out (by decide)) (fun _ hk => hk.2) (.slice Ao75 y240.length co75)) (fun _ hk => trivial)⟩, ⟨by xkS_; exact Kd.S_mono (Kd.S_far (p := ⟨gb211, 2, none⟩) (Kd.S_types HO242.out BK211.out (by decide)) (fun _ hk => hk.2) (.slice Ao75 y240.length co75)) (fun _ hk => trivial)⟩, ⟨by xkb_; refine blk_far ?_ NB196_211.out _; xkb_; exact BK196.out⟩, ⟨by xkb_; refine blk_put (cs := #[.int .i64 (wrap64 (rd l0 4)), u212001, u212002, .slice none 0 0]) ?_ 2 _ rfl; xkb_; exact BK211.out⟩, ⟨by repeat (first | (with_reducible first | exact HB.out | apply below_alloc | apply pw_below_drewN | apply below_drew1 | refine below_set ?_ GE196.out | refine below_set ?_ GE211.out) | exact HB.out)⟩⟩
                              ·rw [if_neg c70] at H
                               exact absurd H (by simp)
                          ·rw [if_neg c61] at H
                           exact absurd H (by simp)
                         ·rw [if_neg c60] at H
                          exact absurd H (by simp)
                        ·rw [if_neg c59] at H
                         exact absurd H (by simp)
                       ·rw [if_neg c58] at H
                        have c58b0 : decide (x97_3 < (wrap64 (rd l0 5))) = false := decide_eq_false c58
                        clear c58
                        by_cases c77 : 0 ≤ x7_3
                        ·rw [if_pos c77] at H
                         have c77b0 := eq_true c77
                         have c77b1 : decide (0 ≤ x7_3) = true := decide_eq_true c77
                         clear c77
                         by_cases c78 : x7_3 ≤ (wrap64 ((l0.length : Int) - 4))
                         ·rw [if_pos c78] at H
                          have c78b0 := eq_true c78
                          have c78b1 : decide (x7_3 ≤ (wrap64 ((l0.length : Int) - 4))) = true := decide_eq_true c78
                          clear c78
                          by_cases c79 : (wrap64 ((l0.length : Int) - 4)) ≤ (l0.length : Int)
                          ·rw [if_pos c79] at H
                           have c79b0 := eq_true c79
                           have c79b1 : decide ((wrap64 ((l0.length : Int) - 4)) ≤ (l0.length : Int)) = true := decide_eq_true c79
                           clear c79
                           obtain ⟨y224, hy224⟩ : ∃ y_ : List Int, y_ = ((l0.take ((wrap64 ((l0.length : Int) - 4)) : Int).toNat).drop (x7_3 : Int).toNat) := ⟨_, rfl⟩
                           replace H : ((pack_Unbits.f k3 y224 (wrap64 (rd l0 5))).bind fun bt228 => (if bt228.2 = true then (some ((wrap64 (rd l0 4)), x212001_2, x212002_3, bt228.1, 0)) else (some (0, ([] : List (S52)), ([] : List (List Int)), ([] : List Bool), 25)))) = some (r1, r2, r3, r4, r5) := by first | (rw [hy224]; with_reducible exact H) | (have H2_ := (Option.bind_some _ _).symm.trans H; rw [hy224]; with_reducible exact H2_) | (have H2_ := (Option.bind_some _ _).symm.trans H; with_reducible exact H2_) | with_reducible exact H | (rw [hy224]; exact H) | exact H
                           have Ny224 := Aside0.mk hy224
                           clear hy224
                           replace H := Option.bind_eq_some_iff.mp H
                           obtain ⟨⟨t228, t229⟩, A800, H⟩ := H
                           replace H : (if t229 = true then (some ((wrap64 (rd l0 4)), x212001_2, x212002_3, t228, 0)) else (some (0, ([] : List (S52)), ([] : List (List Int)), ([] : List Bool), 25))) = some (r1, r2, r3, r4, r5) := H
                           have A80 := Aside0.mk A800
                           clear A800
                           by_cases c81 : t229 = true
                           ·subst c81
                            have H1 : (some ((wrap64 (rd l0 4)), x212001_2, x212002_3, t228, 0)) = some (r1, r2, r3, r4, r5) := by rw [if_pos rfl] at H; exact H
                            clear H
                            have H := H1
                            clear H1
                            simp only [Option.some.injEq, Prod.mk.injEq] at H
                            obtain ⟨rfl, rfl, rfl, rfl, rfl⟩ := H
                            have q82 : ((wrap64 ((l0.length : Int) - 4)) : Int) ≤ ((l0.length : Int) : Int) := of_decide_eq_true (by xas_)
                            obtain ⟨i082, hi082, _, hsz82, _⟩ := info_parts info5
                            have hroom82 : l0.length ≤ c0 := HC0.out
                            have hC82 : Kd.C (Kd.int .u8) _ (some ad201) l0.length l0 := HR0.out
                            have ql82 : (x7_3 : Int) ≤ ((wrap64 ((l0.length : Int) - 4)) : Int) := of_decide_eq_true (by xas_)
                            have q082 : (0 : Int) ≤ (x7_3 : Int) := of_decide_eq_true (by xas_)
                            have hcut82 := cut_mid (P := Try.prog) 27 5 .i64 .i64 Try.underlying27 hi082 1 hsz82 (some ad201) l0.length c0 x7_3 (wrap64 ((l0.length : Int) - 4)) q082 ql82 q82 hroom82
                            have hr82 := Kd.C_mid (lo := (x7_3 : Int).toNat) (hi := ((wrap64 ((l0.length : Int) - 4)) : Int).toNat) (c := c0) hC82 (by omega) (by omega) hroom82
                            obtain ⟨A82, hA82⟩ : ∃ A1, A1 = (if c0 = (x7_3 : Int).toNat then (some ad201) else ((some ad201) : Option Addr).map (·.add ((x7_3 : Int).toNat * 1))) := ⟨_, rfl⟩
                            obtain ⟨c82, hc82⟩ : ∃ c1, c1 = c0 - (x7_3 : Int).toNat := ⟨_, rfl⟩
                            have hy82 : y224.length = ((wrap64 ((l0.length : Int) - 4)) : Int).toNat - (x7_3 : Int).toNat := (by rw [Ny224.out, List.length_drop, List.length_take] <;> omega)
                            rw [show ((l0).take ((wrap64 ((l0.length : Int) - 4)) : Int).toNat).drop (x7_3 : Int).toNat = y224 from Ny224.out.symm] at hr82
                            replace hr82 : Kd.C (Kd.int .u8) _ A82 y224.length y224 := (by rw [hA82]; exact hr82)
                            rw [← hy82, ← hA82, ← hc82] at hcut82
                            have HR227 := Aside0.mk hr82
                            have HC227 := Aside0.mk (show y224.length ≤ c82 from by rw [hy82, hc82]; exact Nat.sub_le_sub_right (Nat.le_trans (by omega) hroom82) _)
                            clear hr82 hC82 hroom82 hi082 hsz82 hc82
                            have KY82 := Aside0.mk hy82
                            have KA82 := Aside0.mk hA82
                            clear hy82 hA82
                            replace q82 := eq_true q82
                            go_wp2_with (first | ((with_reducible refine gate_callee (f := 35) rfl ?_); refine goesL_ (some 136) rfl rfl Try.func35 (by kernel_rfl) rfl #[.slice A82 y224.length c82, .int .i64 (wrap64 (rd l0 5))] rfl (by xlm_) ?_; (with_reducible refine (pack_Unbits.calls k3 _ _ y224 (wrap64 (rd l0 5)) t228 true _ ?side1 ?side2 A80.out).mono ?_); (case side1 => repeat (first | exact (Kd.C_below HR227.out HB.out) | xkC_)); (case side2 => exact HC227.out); rintro e w83 ⟨v230, rfl, ho0, hb⟩; refine ⟨_, rfl, ?_⟩; have n0_ := Aside0.mk (Kd.R_below (by xkR_; exact HO_212001.out) hb); have n1_ := Aside0.mk (Kd.S_below (by xkS_; exact HO_212002.out) hb); have n2_ := Aside0.mk (Kd.R_lower ho0 (below_size (by repeat (first | (with_reducible first | exact HB.out | apply below_alloc | apply pw_below_drewN | apply below_drew1 | refine below_set ?_ GE196.out | refine below_set ?_ GE211.out) | exact HB.out)))); have n3_ := Aside0.mk (blk_below (g := gb196) (o := .cells #[.int .i64 0, .slice none 0 0, .slice none 0 0, .slice none 0 0] 26 (0, 0)) (by xkb_; exact BK196.out) hb); have n4_ := Aside0.mk (blk_below (g := gb211) (o := .cells #[.int .i64 (wrap64 (rd l0 4)), u212001, u212002, .slice none 0 0] 26 (0, 0)) (by xkb_; exact BK211.out) hb); have n5_ := Aside0.mk (below_step (by repeat (first | (with_reducible first | exact HB.out | apply below_alloc | apply pw_below_drewN | apply below_drew1 | refine below_set ?_ GE196.out | refine below_set ?_ GE211.out) | exact HB.out)) hb); clear HO_212001; clear HO_212002; clear BK196; clear BK211; clear HB; have HO_212001 := n0_; have HO_212002 := n1_; have HO231 := n2_; have BK196 := n3_; have BK211 := n4_; have HB := n5_; clear n0_ n1_ n2_ n3_ n4_ n5_; (try clear hb); (try clear hb2); (try clear hk); (try clear hi); (try clear ho0); obtain ⟨Ao84, co84, eo84⟩ := Kd.R_slice HO231.out; subst eo84; have hnb85 := NB211_196.out; have hnc85 := NB196_211.out; have hcz86_0 : w83.cell? ⟨gb211, 0, none⟩ = some (.int .i64 (wrap64 (rd l0 4))) := (blk_cell BK211.out 0).trans rfl; have hcz86_1 : w83.cell? ⟨gb211, 1, none⟩ = some (u212001) := (blk_cell BK211.out 1).trans rfl; have hcz86_2 : w83.cell? ⟨gb211, 2, none⟩ = some (u212002) := (blk_cell BK211.out 2).trans rfl; have hcz86_3 : w83.cell? ⟨gb211, 3, none⟩ = some (.slice none 0 0) := (blk_cell BK211.out 3).trans rfl; have hfz86_0 := blk_frozen BK211.out 0; have hfz86_1 := blk_frozen BK211.out 1; have hfz86_2 := blk_frozen BK211.out 2; have hfz86_3 := blk_frozen BK211.out 3; have hcz87_0 : w83.cell? ⟨gb196, 0, none⟩ = some (.int .i64 0) := (blk_cell BK196.out 0).trans rfl; have hcz87_1 : w83.cell? ⟨gb196, 1, none⟩ = some (.slice none 0 0) := (blk_cell BK196.out 1).trans rfl; have hcz87_2 : w83.cell? ⟨gb196, 2, none⟩ = some (.slice none 0 0) := (blk_cell BK196.out 2).trans rfl; have hcz87_3 : w83.cell? ⟨gb196, 3, none⟩ = some (.slice none 0 0) := (blk_cell BK196.out 3).trans rfl; have hfz87_0 := blk_frozen BK196.out 0; have hfz87_1 := blk_frozen BK196.out 1; have hfz87_2 := blk_frozen BK196.out 2; have hfz87_3 := blk_frozen BK196.out 3; obtain ⟨Ao88, co88, eo88⟩ := Kd.R_slice HO_212001.out; subst eo88; obtain ⟨Ao89, co89, eo89⟩ := Kd.S_slice HO_212002.out; subst eo89))
                            refine bodyPost_ret (results_ct rfl _ _ gb196 26 #[.int .i64 (wrap64 (rd l0 4)), .slice Ao88 x212001_2.length co88, .slice Ao89 x212002_3.length co89, .slice Ao84 t228.length co84] (0, 0) _ rfl (by xkb_; refine blk_put (cs := #[.int .i64 (wrap64 (rd l0 4)), .slice Ao88 x212001_2.length co88, .slice Ao89 x212002_3.length co89, .slice none 0 0]) ?_ 3 _ rfl; xkb_; refine blk_put (cs := #[.int .i64 (wrap64 (rd l0 4)), .slice Ao88 x212001_2.length co88, .slice none 0 0, .slice none 0 0]) ?_ 2 _ rfl; xkb_; refine blk_put (cs := #[.int .i64 (wrap64 (rd l0 4)), .slice none 0 0, .slice none 0 0, .slice none 0 0]) ?_ 1 _ rfl; xkb_; refine blk_put (cs := #[.int .i64 0, .slice none 0 0, .slice none 0 0, .slice none 0 0]) ?_ 0 _ rfl; xkb_; refine blk_far ?_ NB196_211.out _; xkb_; exact BK196.out) Try.underlying26 rfl (by kernel_rfl)) rfl ?_
                            exact ⟨_, _, _, by first | rfl | (simp [errW_none, errW_some] <;> rfl) | (simp [*, errW_none, errW_some] <;> rfl), by xkR_; exact Kd.R_mono (Kd.R_far (p := ⟨gb196, 3, none⟩) (Kd.R_far (p := ⟨gb196, 2, none⟩) (Kd.R_far (p := ⟨gb196, 1, none⟩) (Kd.R_far (p := ⟨gb196, 0, none⟩) (Kd.R_far (p := ⟨gb211, 3, none⟩) (Kd.R_types (Kd.R_types HO_212001.out BK211.out (by decide)) BK196.out (by decide)) (fun _ hk => hk.1.2) (.slice Ao84 t228.length co84)) (fun _ hk => hk.2) (.int .i64 (wrap64 (rd l0 4)))) (fun _ hk => hk.2) (.slice Ao88 x212001_2.length co88)) (fun _ hk => hk.2) (.slice Ao89 x212002_3.length co89)) (fun _ hk => hk.2) (.slice Ao84 t228.length co84)) (fun _ hk => trivial), by xkS_; exact Kd.S_mono (Kd.S_far (p := ⟨gb196, 3, none⟩) (Kd.S_far (p := ⟨gb196, 2, none⟩) (Kd.S_far (p := ⟨gb196, 1, none⟩) (Kd.S_far (p := ⟨gb196, 0, none⟩) (Kd.S_far (p := ⟨gb211, 3, none⟩) (Kd.S_types (Kd.S_types HO_212002.out BK211.out (by decide)) BK196.out (by decide)) (fun _ hk => hk.1.2) (.slice Ao84 t228.length co84)) (fun _ hk => hk.2) (.int .i64 (wrap64 (rd l0 4)))) (fun _ hk => hk.2) (.slice Ao88 x212001_2.length co88)) (fun _ hk => hk.2) (.slice Ao89 x212002_3.length co89)) (fun _ hk => hk.2) (.slice Ao84 t228.length co84)) (fun _ hk => trivial), by xkR_; exact Kd.R_mono (Kd.R_far (p := ⟨gb196, 3, none⟩) (Kd.R_far (p := ⟨gb196, 2, none⟩) (Kd.R_far (p := ⟨gb196, 1, none⟩) (Kd.R_far (p := ⟨gb196, 0, none⟩) (Kd.R_far (p := ⟨gb211, 3, none⟩) (Kd.R_types (Kd.R_types HO231.out BK211.out (by decide)) BK196.out (by decide)) (fun _ hk => hk.1.2) (.slice Ao84 t228.length co84)) (fun _ hk => hk.2) (.int .i64 (wrap64 (rd l0 4)))) (fun _ hk => hk.2) (.slice Ao88 x212001_2.length co88)) (fun _ hk => hk.2) (.slice Ao89 x212002_3.length co89)) (fun _ hk => hk.2) (.slice Ao84 t228.length co84)) (fun _ hk => trivial), by repeat (first | (with_reducible first | exact HB.out | apply below_alloc | apply pw_below_drewN | apply below_drew1 | refine below_set ?_ GE196.out | refine below_set ?_ GE211.out) | exact HB.out)⟩
                           ·replace c81 := Bool.eq_false_iff.mpr c81
                            subst c81
                            have H1 : (some (0, ([] : List (S52)), ([] : List (List Int)), ([] : List Bool), 25)) = some (r1, r2, r3, r4, r5) := by rw [if_neg (show ¬ (false = true) by decide)] at H; exact H
                            clear H
                            have H := H1
                            clear H1
                            simp only [Option.some.injEq, Prod.mk.injEq] at H
                            obtain ⟨rfl, rfl, rfl, rfl, rfl⟩ := H
                            have q90 : ((wrap64 ((l0.length : Int) - 4)) : Int) ≤ ((l0.length : Int) : Int) := of_decide_eq_true (by xas_)
                            obtain ⟨i090, hi090, _, hsz90, _⟩ := info_parts info5
                            have hroom90 : l0.length ≤ c0 := HC0.out
                            have hC90 : Kd.C (Kd.int .u8) _ (some ad201) l0.length l0 := HR0.out
                            have ql90 : (x7_3 : Int) ≤ ((wrap64 ((l0.length : Int) - 4)) : Int) := of_decide_eq_true (by xas_)
                            have q090 : (0 : Int) ≤ (x7_3 : Int) := of_decide_eq_true (by xas_)
                            have hcut90 := cut_mid (P := Try.prog) 27 5 .i64 .i64 Try.underlying27 hi090 1 hsz90 (some ad201) l0.length c0 x7_3 (wrap64 ((l0.length : Int) - 4)) q090 ql90 q90 hroom90
                            have hr90 := Kd.C_mid (lo := (x7_3 : Int).toNat) (hi := ((wrap64 ((l0.length : Int) - 4)) : Int).toNat) (c := c0) hC90 (by omega) (by omega) hroom90
                            obtain ⟨A90, hA90⟩ : ∃ A1, A1 = (if c0 = (x7_3 : Int).toNat then (some ad201) else ((some ad201) : Option Addr).map (·.add ((x7_3 : Int).toNat * 1))) := ⟨_, rfl⟩
                            obtain ⟨c90, hc90⟩ : ∃ c1, c1 = c0 - (x7_3 : Int).toNat := ⟨_, rfl⟩
                            have hy90 : y224.length = ((wrap64 ((l0.length : Int) - 4)) : Int).toNat - (x7_3 : Int).toNat := (by rw [Ny224.out, List.length_drop, List.length_take] <;> omega)
                            rw [show ((l0).take ((wrap64 ((l0.length : Int) - 4)) : Int).toNat).drop (x7_3 : Int).toNat = y224 from Ny224.out.symm] at hr90
                            replace hr90 : Kd.C (Kd.int .u8) _ A90 y224.length y224 := (by rw [hA90]; exact hr90)
                            rw [← hy90, ← hA90, ← hc90] at hcut90
                            have HR227 := Aside0.mk hr90
                            have HC227 := Aside0.mk (show y224.length ≤ c90 from by rw [hy90, hc90]; exact Nat.sub_le_sub_right (Nat.le_trans (by omega) hroom90) _)
                            clear hr90 hC90 hroom90 hi090 hsz90 hc90
                            have KY90 := Aside0.mk hy90
                            have KA90 := Aside0.mk hA90
                            clear hy90 hA90
                            replace q90 := eq_true q90
                            go_wp2_with (first | ((with_reducible refine gate_callee (f := 35) rfl ?_); refine goesL_ (some 136) rfl rfl Try.func35 (by kernel_rfl) rfl #[.slice A90 y224.length c90, .int .i64 (wrap64 (rd l0 5))] rfl (by xlm_) ?_; (with_reducible refine (pack_Unbits.calls k3 _ _ y224 (wrap64 (rd l0 5)) t228 false _ ?side1 ?side2 A80.out).mono ?_); (case side1 => repeat (first | exact (Kd.C_below HR227.out HB.out) | xkC_)); (case side2 => exact HC227.out); rintro e w91 ⟨v230, rfl, ho0, hb⟩; refine ⟨_, rfl, ?_⟩; have n0_ := Aside0.mk (Kd.R_below (by xkR_; exact HO_212001.out) hb); have n1_ := Aside0.mk (Kd.S_below (by xkS_; exact HO_212002.out) hb); have n2_ := Aside0.mk (Kd.R_lower ho0 (below_size (by repeat (first | (with_reducible first | exact HB.out | apply below_alloc | apply pw_below_drewN | apply below_drew1 | refine below_set ?_ GE196.out | refine below_set ?_ GE211.out) | exact HB.out)))); have n3_ := Aside0.mk (blk_below (g := gb196) (o := .cells #[.int .i64 0, .slice none 0 0, .slice none 0 0, .slice none 0 0] 26 (0, 0)) (by xkb_; exact BK196.out) hb); have n4_ := Aside0.mk (blk_below (g := gb211) (o := .cells #[.int .i64 (wrap64 (rd l0 4)), u212001, u212002, .slice none 0 0] 26 (0, 0)) (by xkb_; exact BK211.out) hb); have n5_ := Aside0.mk (below_step (by repeat (first | (with_reducible first | exact HB.out | apply below_alloc | apply pw_below_drewN | apply below_drew1 | refine below_set ?_ GE196.out | refine below_set ?_ GE211.out) | exact HB.out)) hb); clear HO_212001; clear HO_212002; clear BK196; clear BK211; clear HB; have HO_212001 := n0_; have HO_212002 := n1_; have HO231 := n2_; have BK196 := n3_; have BK211 := n4_; have HB := n5_; clear n0_ n1_ n2_ n3_ n4_ n5_; (try clear hb); (try clear hb2); (try clear hk); (try clear hi); (try clear ho0); have hnb92 := NB196_211.out; have hnc92 := NB211_196.out; have hcz93_0 : w91.cell? ⟨gb196, 0, none⟩ = some (.int .i64 0) := (blk_cell BK196.out 0).trans rfl; have hcz93_1 : w91.cell? ⟨gb196, 1, none⟩ = some (.slice none 0 0) := (blk_cell BK196.out 1).trans rfl; have hcz93_2 : w91.cell? ⟨gb196, 2, none⟩ = some (.slice none 0 0) := (blk_cell BK196.out 2).trans rfl; have hcz93_3 : w91.cell? ⟨gb196, 3, none⟩ = some (.slice none 0 0) := (blk_cell BK196.out 3).trans rfl; have hfz93_0 := blk_frozen BK196.out 0; have hfz93_1 := blk_frozen BK196.out 1; have hfz93_2 := blk_frozen BK196.out 2; have hfz93_3 := blk_frozen BK196.out 3))
                            refine bodyPost_ret (results_ct rfl _ _ gb196 26 #[.int .i64 0, .slice none 0 0, .slice none 0 0, .slice none 0 0] (0, 0) _ rfl (by xkb_; refine blk_put (cs := #[.int .i64 0, .slice none 0 0, .slice none 0 0, .slice none 0 0]) ?_ 3 _ rfl; xkb_; refine blk_put (cs := #[.int .i64 0, .slice none 0 0, .slice none 0 0, .slice none 0 0]) ?_ 2 _ rfl; xkb_; refine blk_put (cs := #[.int .i64 0, .slice none 0 0, .slice none 0 0, .slice none 0 0]) ?_ 1 _ rfl; xkb_; refine blk_put (cs := #[.int .i64 0, .slice none 0 0, .slice none 0 0, .slice none 0 0]) ?_ 0 _ rfl; xkb_; exact BK196.out) Try.underlying26 rfl (by kernel_rfl)) rfl ?_
                            exact ⟨_, _, _, by first | rfl | (simp [errW_none, errW_some] <;> rfl) | (simp [*, errW_none, errW_some] <;> rfl), by xni_, by first | exact Kd.S_nil _ _ _ _ _ | exact Kd.N_nil _ _ _ _ _ | exact Kd.V_nil _ _ _ _ _ | exact Kd.Q_nil _ _ _ _ _ | exact Kd.R_nil _ _ _ _ _, by xni_, by repeat (first | (with_reducible first | exact HB.out | apply below_alloc | apply pw_below_drewN | apply below_drew1 | refine below_set ?_ GE196.out | refine below_set ?_ GE211.out) | exact HB.out)⟩
                          ·rw [if_neg c79] at H
                           exact absurd H (by simp)
                         ·rw [if_neg c78] at H
                          exact absurd H (by simp)
                        ·rw [if_neg c77] at H
                         exact absurd H (by simp)
              ·rw [if_neg c19] at H
               exact absurd H (by simp)
             ·rw [if_neg c18] at H
              exact absurd H (by simp)
            ·rw [if_neg c17] at H
             exact absurd H (by simp)
           ·replace c16 := Bool.eq_false_iff.mpr c16
            subst c16
            have H1 : (some (0, ([] : List (S52)), ([] : List (List Int)), ([] : List Bool), 23)) = some (r1, r2, r3, r4, r5) := by rw [if_neg (show ¬ (false = true) by decide)] at H; exact H
            clear H
            have H := H1
            clear H1
            simp only [Option.some.injEq, Prod.mk.injEq] at H
            obtain ⟨rfl, rfl, rfl, rfl, rfl⟩ := H
            go_enter Try.func14, Try.ntmps14
            try go_wp2_with (first | ((with_reducible refine gate_dst (N := 2) rfl ?_); xgg_; refine box_event ?hg (N := 2) ?hd (cs := #[.int .i64 0, .slice none 0 0, .slice none 0 0, .slice none 0 0]) (t := 26) ?hr ?_; (case hd => rfl); (case hg => rfl); (case hr => xgs_); intro gb196 hg w94 hbox hb; have n0_ := Aside0.mk (below_step (by repeat (first | (with_reducible first | exact HB.out | apply below_alloc | apply pw_below_drewN | apply below_drew1) | exact HB.out)) hb); have n1_ := Aside0.mk (hbox); have n2_ := Aside0.mk ((by rw [hg]; exact (below_size (by repeat (first | (with_reducible first | exact HB.out | apply below_alloc | apply pw_below_drewN | apply below_drew1) | exact HB.out))) : w.heap.size ≤ gb196)); have n3_ := Aside0.mk ((by rw [hg]; exact (below_size (by repeat (first | (with_reducible first | exact HB.out | apply below_alloc | apply pw_below_drewN | apply below_drew1) | exact HB.out))) : w.heap.size ≤ gb196)); clear HB; have HB := n0_; have BK196 := n1_; have GW196 := n2_; have GE196 := n3_; clear n0_ n1_ n2_ n3_; clear hb hbox hg))
            have n0_ := Aside0.mk (blk_drew BK196.out)
            have n1_ := Aside0.mk (below_drew1 HB.out)
            clear BK196
            clear HB
            have BK196 := n0_
            have HB := n1_
            clear n0_ n1_
            have q96 : (4 : Int) ≤ ((l0.length : Int) : Int) := of_decide_eq_true (by xas_)
            obtain ⟨i096, hi096, _, hsz96, _⟩ := info_parts info5
            have hroom96 : l0.length ≤ c0 := HC0.out
            have hC96 : Kd.C (Kd.int .u8) _ A0 l0.length l0 := HR0.out
            have hcut96 := cut_to (P := Try.prog) 27 5 .i64 Try.underlying27 hi096 A0 l0.length c0 4 (by omega) q96 hroom96
            have hr96 := Kd.C_take (m := 4) hC96 (by omega)
            have hy96 : y197.length = (4 : Int).toNat := (by rw [Ny197.out, List.length_take]; omega)
            rw [← Ny197.out] at hr96
            rw [← hy96] at hcut96
            have HR200 := Aside0.mk hr96
            have HC200 := Aside0.mk (show y197.length ≤ c0 from by omega)
            clear hr96 hC96 hroom96 hi096 hsz96
            have KY96 := Aside0.mk hy96
            clear hy96
            replace q96 := eq_true q96
            have p201 : 0 ≤ (0 : Int) := (by omega)
            have q201 : 0 < (y197.length : Int) := of_decide_eq_true (by xas_)
            obtain ⟨ad201, e201, hx201_0⟩ := Kd.at_int HR200.out 0 p201 q201
            have hw201_0 := hx201_0
            (try rw [show ((0 : Int)).toNat = 0 from rfl] at hw201_0)
            (try rw [show 0 * 1 = 0 from rfl] at hw201_0)
            (try rw [Addr.add_zero'] at hw201_0)
            cases e201
            have qi201 : (0 < y197.length) = True := eq_true (by omega)
            (try rw [show ((0 : Int)).toNat = 0 from rfl] at hx201_0)
            (try rw [Addr.add_zero'] at hx201_0)
            replace hx201_0 := (HB.out.cell (World.block_lt_of_cell? w _ hx201_0)).trans hx201_0
            replace p201 := eq_true p201
            replace q201 := eq_true q201
            have p202 : 0 ≤ (1 : Int) := (by omega)
            have q202 : 1 < (y197.length : Int) := of_decide_eq_true (by xas_)
            obtain ⟨ad202, e202, hx202_0⟩ := Kd.at_int HR200.out 1 p202 q202
            have hw202_0 := hx202_0
            (try rw [show ((1 : Int)).toNat = 1 from rfl] at hw202_0)
            (try rw [show 1 * 1 = 1 from rfl] at hw202_0)
            (try simp only [Nat.reduceMul, Nat.reduceEqDiff, Go.Addr.add, ↓reduceIte] at hw202_0)
            obtain rfl : ad201 = ad202 := (by injection e202)
            (try simp only [show (1 : Int).toNat = 1 from rfl, Nat.reduceMul, Nat.reduceEqDiff, Go.Addr.add, ↓reduceIte] at hx202_0)
            have qi202 : (1 < y197.length) = True := eq_true (by omega)
            (try rw [show ((1 : Int)).toNat = 1 from rfl] at hx202_0)
            replace hx202_0 := (HB.out.cell (World.block_lt_of_cell? w _ hx202_0)).trans hx202_0
            replace p202 := eq_true p202
            replace q202 := eq_true q202
            have p203 : 0 ≤ (2 : Int) := (by omega)
            have q203 : 2 < (y197.length : Int) := of_decide_eq_true (by xas_)
            obtain ⟨ad203, e203, hx203_0⟩ := Kd.at_int HR200.out 2 p203 q203
            have hw203_0 := hx203_0
            (try rw [show ((2 : Int)).toNat = 2 from rfl] at hw203_0)
            (try rw [show 2 * 1 = 2 from rfl] at hw203_0)
            (try simp only [Nat.reduceMul, Nat.reduceEqDiff, Go.Addr.add, ↓reduceIte] at hw203_0)
            obtain rfl : ad201 = ad203 := (by injection e203)
            (try simp only [show (2 : Int).toNat = 2 from rfl, Nat.reduceMul, Nat.reduceEqDiff, Go.Addr.add, ↓reduceIte] at hx203_0)
            have qi203 : (2 < y197.length) = True := eq_true (by omega)
            (try rw [show ((2 : Int)).toNat = 2 from rfl] at hx203_0)
            replace hx203_0 := (HB.out.cell (World.block_lt_of_cell? w _ hx203_0)).trans hx203_0
            replace p203 := eq_true p203
            replace q203 := eq_true q203
            have p204 : 0 ≤ (3 : Int) := (by omega)
            have q204 : 3 < (y197.length : Int) := of_decide_eq_true (by xas_)
            obtain ⟨ad204, e204, hx204_0⟩ := Kd.at_int HR200.out 3 p204 q204
            have hw204_0 := hx204_0
            (try rw [show ((3 : Int)).toNat = 3 from rfl] at hw204_0)
            (try rw [show 3 * 1 = 3 from rfl] at hw204_0)
            (try simp only [Nat.reduceMul, Nat.reduceEqDiff, Go.Addr.add, ↓reduceIte] at hw204_0)
            obtain rfl : ad201 = ad204 := (by injection e204)
            (try simp only [show (3 : Int).toNat = 3 from rfl, Nat.reduceMul, Nat.reduceEqDiff, Go.Addr.add, ↓reduceIte] at hx204_0)
            have qi204 : (3 < y197.length) = True := eq_true (by omega)
            (try rw [show ((3 : Int)).toNat = 3 from rfl] at hx204_0)
            replace hx204_0 := (HB.out.cell (World.block_lt_of_cell? w _ hx204_0)).trans hx204_0
            replace p204 := eq_true p204
            replace q204 := eq_true q204
            refine start_ (n := 7) (S := fun w' => w'.cell? ad201 = some (.int .u8 (rd y197 0)) ∧ w'.cell? ⟨ad201.block, ad201.off + 1, none⟩ = some (.int .u8 (rd y197 1)) ∧ w'.cell? ⟨ad201.block, ad201.off + 2, none⟩ = some (.int .u8 (rd y197 2)) ∧ w'.cell? ⟨ad201.block, ad201.off + 3, none⟩ = some (.int .u8 (rd y197 3))) (ds := []) #[false, false, false, false, false, false, false] (by kernel_rfl) rfl rfl ⟨((HB.out.cell (World.block_lt_of_cell? w _ hw201_0)).trans hw201_0), ((HB.out.cell (World.block_lt_of_cell? w _ hw202_0)).trans hw202_0), ((HB.out.cell (World.block_lt_of_cell? w _ hw203_0)).trans hw203_0), ((HB.out.cell (World.block_lt_of_cell? w _ hw204_0)).trans hw204_0)⟩ (fun hHeld => ?_)
            generalize w94.drew = w95 at BK196 HB HR200 hx201_0 hx202_0 hx203_0 hx204_0 hHeld ⊢
            refine pure_ (i := 0) (N := some 21) (v := ?_) (a' := ?_) #[true, false, false, false, false, false, false] rfl rfl (by kernel_rfl) (fun _ _ _ h => h) (Or.inl ⟨by rfl, ?_⟩) ?_ ?_
            rotate_left
            ·intro w'
             go_simp
             with_reducible rfl
            rotate_left
            ·xsp_ i64_w i32_w
             rfl
            refine pure_ (i := 1) (N := some 22) (v := ?_) (a' := ?_) #[true, true, false, false, false, false, false] rfl rfl (by kernel_rfl) (fun _ _ _ h => h) (Or.inl ⟨by rfl, ?_⟩) ?_ ?_
            rotate_left
            ·intro w'
             go_simp
             with_reducible rfl
            rotate_left
            ·xsp_ i64_w i32_w
             rfl
            refine pure_ (i := 2) (N := some 23) (v := ?_) (a' := ?_) #[true, true, true, false, false, false, false] rfl rfl (by kernel_rfl) (fun _ _ _ h => h) (Or.inl ⟨by rfl, ?_⟩) ?_ ?_
            rotate_left
            ·intro w'
             go_simp
             rw [XFn.run_arrayAt Try.underlying61 _ _ _ (by show 3 < _; exact of_decide_eq_true (by xas_))]
             rfl
            rotate_left
            ·xsp_ i64_w i32_w
             rfl
            refine take_ (i := 3) (N := some 24) (v := ?_) (a' := ?_) #[true, true, true, true, false, false, false] rfl rfl (by kernel_rfl) (fun _ _ _ h => h) (Or.inl ⟨by rfl, ?_⟩) hHeld ?_ ?_
            rotate_left
            ·rintro w' ⟨s0, s1, s2, s3⟩
             go_simp
             with_reducible rfl
            rotate_left
            ·xsp_ i64_w i32_w
             rfl
            refine one_ (i := 4) (N := some 25) #[true, true, true, true, true, false, false] rfl rfl (by kernel_rfl) (by decide) (fun K hK => ?_)
            refine goes_ Try.func26 (by kernel_rfl) rfl #[] (by rfl) rfl rfl (by xlm_) ?_
            with_reducible refine (table_known.calls  t205 t206 t207 t208 _ A10.out).mono ?_
            rintro e w97 ⟨rfl, hb⟩
            refine ⟨_, rfl, ?_⟩
            have n0_ := Aside0.mk (blk_below (g := gb196) (o := .cells #[.int .i64 0, .slice none 0 0, .slice none 0 0, .slice none 0 0] 26 (0, 0)) (by xkb_; exact BK196.out) hb)
            have n1_ := Aside0.mk (below_step (by repeat (first | (with_reducible first | exact HB.out | apply below_alloc | apply pw_below_drewN | apply below_drew1 | refine below_set ?_ GE196.out) | exact HB.out)) hb)
            clear BK196
            clear HB
            have BK196 := n0_
            have HB := n1_
            clear n0_ n1_
            (try clear hb)
            (try clear hb2)
            (try clear hk)
            (try clear hi)
            refine hK.out _ _ ⟨((HB.out.cell (World.block_lt_of_cell? w _ hw201_0)).trans hw201_0), ((HB.out.cell (World.block_lt_of_cell? w _ hw202_0)).trans hw202_0), ((HB.out.cell (World.block_lt_of_cell? w _ hw203_0)).trans hw203_0), ((HB.out.cell (World.block_lt_of_cell? w _ hw204_0)).trans hw204_0)⟩ (fun hHeld => ?_)
            clear hK K
            refine norm_ (a' := ?_) ?_ ?_
            rotate_left
            ·show Act.put _ (some 25) _ = _
             xsp_ i64_w i32_w
             rfl
            refine pure_ (i := 5) (N := some 26) (v := ?_) (a' := ?_) #[true, true, true, true, true, true, false] rfl rfl (by kernel_rfl) (fun _ _ _ h => h) (Or.inl ⟨by rfl, ?_⟩) ?_ ?_
            rotate_left
            ·intro w'
             go_simp
             rw [XFn.eqA4 _ 9998 Try.underlying61 Try.underlying5 (by kernel_rfl) (by kernel_rfl)]
             simp only [Result.andThen_ok]
             try simp only [c11b0, Bool.true_and, Bool.false_and, Bool.not_true, Bool.not_false]
             try simp only [c12b0, Bool.true_and, Bool.false_and, Bool.not_true, Bool.not_false]
             try simp only [c13b0, Bool.true_and, Bool.false_and, Bool.not_true, Bool.not_false]
             try simp only [c14b0, Bool.true_and, Bool.false_and, Bool.not_true, Bool.not_false]
             with_reducible rfl
            rotate_left
            ·xsp_ i64_w i32_w
             rfl
            refine pure_ (i := 6) (N := some 20) (v := ?_) (a' := ?_) #[true, true, true, true, true, true, true] rfl rfl (by kernel_rfl) (fun _ _ _ h => h) (Or.inl ⟨by rfl, ?_⟩) ?_ ?_
            rotate_left
            ·intro w'
             go_simp
             with_reducible rfl
            rotate_left
            ·xsp_ i64_w i32_w
             rfl
            refine done_ (by kernel_rfl) ?_
            try go_wp2_with (first | ((with_reducible refine gate_callee (f := 32) rfl ?_); refine goesL_ (some 30) rfl rfl Try.func32 (by kernel_rfl) rfl #[.slice (some ad201) l0.length c0] rfl (by xlm_) ?_; (with_reducible refine (table_sealed.calls k _ _ l0 false _ ?side1 ?side2 A15.out).mono ?_); (case side1 => repeat (first | exact (Kd.C_below HR0.out HB.out) | xkC_)); (case side2 => exact HC0.out); rintro e w' ⟨rfl, ⟨nd, rfl⟩⟩; refine ⟨_, rfl, ?_⟩; (try (rw [drewN_self w97]; generalize hq_ : World.drewN w97 _ = w97; have n0_ : Aside0 (w97.heap[gb196]? = some (.cells #[.int .i64 0, .slice none 0 0, .slice none 0 0, .slice none 0 0] 26 (0, 0))) := ⟨by rw [← hq_]; exact (by xkb_; exact BK196.out)⟩; have n1_ : Aside0 (Below w.heap.size w w97) := ⟨by rw [← hq_]; exact (by repeat (first | (with_reducible first | exact HB.out | apply below_alloc | apply pw_below_drewN | apply below_drew1 | refine below_set ?_ GE196.out) | exact HB.out))⟩; clear BK196 HB hq_; have BK196 := n0_; have HB := n1_; clear n0_ n1_; have hqzgb196_0 : w97.cell? ⟨gb196, 0, none⟩ = some (.int .i64 0) := (blk_cell BK196.out 0).trans rfl; have hqfgb196_0 := blk_frozen BK196.out 0; have hqzgb196_1 : w97.cell? ⟨gb196, 1, none⟩ = some (.slice none 0 0) := (blk_cell BK196.out 1).trans rfl; have hqfgb196_1 := blk_frozen BK196.out 1; have hqzgb196_2 : w97.cell? ⟨gb196, 2, none⟩ = some (.slice none 0 0) := (blk_cell BK196.out 2).trans rfl; have hqfgb196_2 := blk_frozen BK196.out 2; have hqzgb196_3 : w97.cell? ⟨gb196, 3, none⟩ = some (.slice none 0 0) := (blk_cell BK196.out 3).trans rfl; have hqfgb196_3 := blk_frozen BK196.out 3)); have hcz98_0 : w97.cell? ⟨gb196, 0, none⟩ = some (.int .i64 0) := (blk_cell BK196.out 0).trans rfl; have hcz98_1 : w97.cell? ⟨gb196, 1, none⟩ = some (.slice none 0 0) := (blk_cell BK196.out 1).trans rfl; have hcz98_2 : w97.cell? ⟨gb196, 2, none⟩ = some (.slice none 0 0) := (blk_cell BK196.out 2).trans rfl; have hcz98_3 : w97.cell? ⟨gb196, 3, none⟩ = some (.slice none 0 0) := (blk_cell BK196.out 3).trans rfl; have hfz98_0 := blk_frozen BK196.out 0; have hfz98_1 := blk_frozen BK196.out 1; have hfz98_2 := blk_frozen BK196.out 2; have hfz98_3 := blk_frozen BK196.out 3))
            refine bodyPost_ret (results_ct rfl _ _ gb196 26 #[.int .i64 0, .slice none 0 0, .slice none 0 0, .slice none 0 0] (0, 0) _ rfl (by xkb_; refine blk_put (cs := #[.int .i64 0, .slice none 0 0, .slice none 0 0, .slice none 0 0]) ?_ 3 _ rfl; xkb_; refine blk_put (cs := #[.int .i64 0, .slice none 0 0, .slice none 0 0, .slice none 0 0]) ?_ 2 _ rfl; xkb_; refine blk_put (cs := #[.int .i64 0, .slice none 0 0, .slice none 0 0, .slice none 0 0]) ?_ 1 _ rfl; xkb_; refine blk_put (cs := #[.int .i64 0, .slice none 0 0, .slice none 0 0, .slice none 0 0]) ?_ 0 _ rfl; xkb_; exact BK196.out) Try.underlying26 rfl (by kernel_rfl)) rfl ?_
            exact ⟨_, _, _, by first | rfl | (simp [errW_none, errW_some] <;> rfl) | (simp [*, errW_none, errW_some] <;> rfl), by xni_, by first | exact Kd.S_nil _ _ _ _ _ | exact Kd.N_nil _ _ _ _ _ | exact Kd.V_nil _ _ _ _ _ | exact Kd.Q_nil _ _ _ _ _ | exact Kd.R_nil _ _ _ _ _, by xni_, by repeat (first | (with_reducible first | exact HB.out | apply below_alloc | apply pw_below_drewN | apply below_drew1 | refine below_set ?_ GE196.out) | exact HB.out)⟩
          ·rw [if_neg c14] at H
           have c14b0 : ((rd y197 3) == t208) = false := beq_eq_false_iff_ne.mpr c14
           have c14b1 : ((rd y197 3) != t208) = true := bne_iff_ne.mpr c14
           simp only [Option.some.injEq, Prod.mk.injEq] at H
           obtain ⟨rfl, rfl, rfl, rfl, rfl⟩ := H
           go_enter Try.func14, Try.ntmps14
           try go_wp2_with (first | ((with_reducible refine gate_dst (N := 2) rfl ?_); xgg_; refine box_event ?hg (N := 2) ?hd (cs := #[.int .i64 0, .slice none 0 0, .slice none 0 0, .slice none 0 0]) (t := 26) ?hr ?_; (case hd => rfl); (case hg => rfl); (case hr => xgs_); intro gb196 hg w99 hbox hb; have n0_ := Aside0.mk (below_step (by repeat (first | (with_reducible first | exact HB.out | apply below_alloc | apply pw_below_drewN | apply below_drew1) | exact HB.out)) hb); have n1_ := Aside0.mk (hbox); have n2_ := Aside0.mk ((by rw [hg]; exact (below_size (by repeat (first | (with_reducible first | exact HB.out | apply below_alloc | apply pw_below_drewN | apply below_drew1) | exact HB.out))) : w.heap.size ≤ gb196)); have n3_ := Aside0.mk ((by rw [hg]; exact (below_size (by repeat (first | (with_reducible first | exact HB.out | apply below_alloc | apply pw_below_drewN | apply below_drew1) | exact HB.out))) : w.heap.size ≤ gb196)); clear HB; have HB := n0_; have BK196 := n1_; have GW196 := n2_; have GE196 := n3_; clear n0_ n1_ n2_ n3_; clear hb hbox hg))
           have n0_ := Aside0.mk (blk_drew BK196.out)
           have n1_ := Aside0.mk (below_drew1 HB.out)
           clear BK196
           clear HB
           have BK196 := n0_
           have HB := n1_
           clear n0_ n1_
           have q101 : (4 : Int) ≤ ((l0.length : Int) : Int) := of_decide_eq_true (by xas_)
           obtain ⟨i0101, hi0101, _, hsz101, _⟩ := info_parts info5
           have hroom101 : l0.length ≤ c0 := HC0.out
           have hC101 : Kd.C (Kd.int .u8) _ A0 l0.length l0 := HR0.out
           have hcut101 := cut_to (P := Try.prog) 27 5 .i64 Try.underlying27 hi0101 A0 l0.length c0 4 (by omega) q101 hroom101
           have hr101 := Kd.C_take (m := 4) hC101 (by omega)
           have hy101 : y197.length = (4 : Int).toNat := (by rw [Ny197.out, List.length_take]; omega)
           rw [← Ny197.out] at hr101
           rw [← hy101] at hcut101
           have HR200 := Aside0.mk hr101
           have HC200 := Aside0.mk (show y197.length ≤ c0 from by omega)
           clear hr101 hC101 hroom101 hi0101 hsz101
           have KY101 := Aside0.mk hy101
           clear hy101
           replace q101 := eq_true q101
           have p201 : 0 ≤ (0 : Int) := (by omega)
           have q201 : 0 < (y197.length : Int) := of_decide_eq_true (by xas_)
           obtain ⟨ad201, e201, hx201_0⟩ := Kd.at_int HR200.out 0 p201 q201
           have hw201_0 := hx201_0
           (try rw [show ((0 : Int)).toNat = 0 from rfl] at hw201_0)
           (try rw [show 0 * 1 = 0 from rfl] at hw201_0)
           (try rw [Addr.add_zero'] at hw201_0)
           cases e201
           have qi201 : (0 < y197.length) = True := eq_true (by omega)
           (try rw [show ((0 : Int)).toNat = 0 from rfl] at hx201_0)
           (try rw [Addr.add_zero'] at hx201_0)
           replace hx201_0 := (HB.out.cell (World.block_lt_of_cell? w _ hx201_0)).trans hx201_0
           replace p201 := eq_true p201
           replace q201 := eq_true q201
           have p202 : 0 ≤ (1 : Int) := (by omega)
           have q202 : 1 < (y197.length : Int) := of_decide_eq_true (by xas_)
           obtain ⟨ad202, e202, hx202_0⟩ := Kd.at_int HR200.out 1 p202 q202
           have hw202_0 := hx202_0
           (try rw [show ((1 : Int)).toNat = 1 from rfl] at hw202_0)
           (try rw [show 1 * 1 = 1 from rfl] at hw202_0)
           (try simp only [Nat.reduceMul, Nat.reduceEqDiff, Go.Addr.add, ↓reduceIte] at hw202_0)
           obtain rfl : ad201 = ad202 := (by injection e202)
           (try simp only [show (1 : Int).toNat = 1 from rfl, Nat.reduceMul, Nat.reduceEqDiff, Go.Addr.add, ↓reduceIte] at hx202_0)
           have qi202 : (1 < y197.length) = True := eq_true (by omega)
           (try rw [show ((1 : Int)).toNat = 1 from rfl] at hx202_0)
           replace hx202_0 := (HB.out.cell (World.block_lt_of_cell? w _ hx202_0)).trans hx202_0
           replace p202 := eq_true p202
           replace q202 := eq_true q202
           have p203 : 0 ≤ (2 : Int) := (by omega)
           have q203 : 2 < (y197.length : Int) := of_decide_eq_true (by xas_)
           obtain ⟨ad203, e203, hx203_0⟩ := Kd.at_int HR200.out 2 p203 q203
           have hw203_0 := hx203_0
           (try rw [show ((2 : Int)).toNat = 2 from rfl] at hw203_0)
           (try rw [show 2 * 1 = 2 from rfl] at hw203_0)
           (try simp only [Nat.reduceMul, Nat.reduceEqDiff, Go.Addr.add, ↓reduceIte] at hw203_0)
           obtain rfl : ad201 = ad203 := (by injection e203)
           (try simp only [show (2 : Int).toNat = 2 from rfl, Nat.reduceMul, Nat.reduceEqDiff, Go.Addr.add, ↓reduceIte] at hx203_0)
           have qi203 : (2 < y197.length) = True := eq_true (by omega)
           (try rw [show ((2 : Int)).toNat = 2 from rfl] at hx203_0)
           replace hx203_0 := (HB.out.cell (World.block_lt_of_cell? w _ hx203_0)).trans hx203_0
           replace p203 := eq_true p203
           replace q203 := eq_true q203
           have p204 : 0 ≤ (3 : Int) := (by omega)
           have q204 : 3 < (y197.length : Int) := of_decide_eq_true (by xas_)
           obtain ⟨ad204, e204, hx204_0⟩ := Kd.at_int HR200.out 3 p204 q204
           have hw204_0 := hx204_0
           (try rw [show ((3 : Int)).toNat = 3 from rfl] at hw204_0)
           (try rw [show 3 * 1 = 3 from rfl] at hw204_0)
           (try simp only [Nat.reduceMul, Nat.reduceEqDiff, Go.Addr.add, ↓reduceIte] at hw204_0)
           obtain rfl : ad201 = ad204 := (by injection e204)
           (try simp only [show (3 : Int).toNat = 3 from rfl, Nat.reduceMul, Nat.reduceEqDiff, Go.Addr.add, ↓reduceIte] at hx204_0)
           have qi204 : (3 < y197.length) = True := eq_true (by omega)
           (try rw [show ((3 : Int)).toNat = 3 from rfl] at hx204_0)
           replace hx204_0 := (HB.out.cell (World.block_lt_of_cell? w _ hx204_0)).trans hx204_0
           replace p204 := eq_true p204
           replace q204 := eq_true q204
           refine start_ (n := 7) (S := fun w' => w'.cell? ad201 = some (.int .u8 (rd y197 0)) ∧ w'.cell? ⟨ad201.block, ad201.off + 1, none⟩ = some (.int .u8 (rd y197 1)) ∧ w'.cell? ⟨ad201.block, ad201.off + 2, none⟩ = some (.int .u8 (rd y197 2)) ∧ w'.cell? ⟨ad201.block, ad201.off + 3, none⟩ = some (.int .u8 (rd y197 3))) (ds := []) #[false, false, false, false, false, false, false] (by kernel_rfl) rfl rfl ⟨((HB.out.cell (World.block_lt_of_cell? w _ hw201_0)).trans hw201_0), ((HB.out.cell (World.block_lt_of_cell? w _ hw202_0)).trans hw202_0), ((HB.out.cell (World.block_lt_of_cell? w _ hw203_0)).trans hw203_0), ((HB.out.cell (World.block_lt_of_cell? w _ hw204_0)).trans hw204_0)⟩ (fun hHeld => ?_)
           generalize w99.drew = w100 at BK196 HB HR200 hx201_0 hx202_0 hx203_0 hx204_0 hHeld ⊢
           refine pure_ (i := 0) (N := some 21) (v := ?_) (a' := ?_) #[true, false, false, false, false, false, false] rfl rfl (by kernel_rfl) (fun _ _ _ h => h) (Or.inl ⟨by rfl, ?_⟩) ?_ ?_
           rotate_left
           ·intro w'
            go_simp
            with_reducible rfl
           rotate_left
           ·xsp_ i64_w i32_w
            rfl
           refine pure_ (i := 1) (N := some 22) (v := ?_) (a' := ?_) #[true, true, false, false, false, false, false] rfl rfl (by kernel_rfl) (fun _ _ _ h => h) (Or.inl ⟨by rfl, ?_⟩) ?_ ?_
           rotate_left
           ·intro w'
            go_simp
            with_reducible rfl
           rotate_left
           ·xsp_ i64_w i32_w
            rfl
           refine pure_ (i := 2) (N := some 23) (v := ?_) (a' := ?_) #[true, true, true, false, false, false, false] rfl rfl (by kernel_rfl) (fun _ _ _ h => h) (Or.inl ⟨by rfl, ?_⟩) ?_ ?_
           rotate_left
           ·intro w'
            go_simp
            rw [XFn.run_arrayAt Try.underlying61 _ _ _ (by show 3 < _; exact of_decide_eq_true (by xas_))]
            rfl
           rotate_left
           ·xsp_ i64_w i32_w
            rfl
           refine take_ (i := 3) (N := some 24) (v := ?_) (a' := ?_) #[true, true, true, true, false, false, false] rfl rfl (by kernel_rfl) (fun _ _ _ h => h) (Or.inl ⟨by rfl, ?_⟩) hHeld ?_ ?_
           rotate_left
           ·rintro w' ⟨s0, s1, s2, s3⟩
            go_simp
            with_reducible rfl
           rotate_left
           ·xsp_ i64_w i32_w
            rfl
           refine one_ (i := 4) (N := some 25) #[true, true, true, true, true, false, false] rfl rfl (by kernel_rfl) (by decide) (fun K hK => ?_)
           refine goes_ Try.func26 (by kernel_rfl) rfl #[] (by rfl) rfl rfl (by xlm_) ?_
           with_reducible refine (table_known.calls  t205 t206 t207 t208 _ A10.out).mono ?_
           rintro e w102 ⟨rfl, hb⟩
           refine ⟨_, rfl, ?_⟩
           have n0_ := Aside0.mk (blk_below (g := gb196) (o := .cells #[.int .i64 0, .slice none 0 0, .slice none 0 0, .slice none 0 0] 26 (0, 0)) (by xkb_; exact BK196.out) hb)
           have n1_ := Aside0.mk (below_step (by repeat (first | (with_reducible first | exact HB.out | apply below_alloc | apply pw_below_drewN | apply below_drew1 | refine below_set ?_ GE196.out) | exact HB.out)) hb)
           clear BK196
           clear HB
           have BK196 := n0_
           have HB := n1_
           clear n0_ n1_
           (try clear hb)
           (try clear hb2)
           (try clear hk)
           (try clear hi)
           refine hK.out _ _ ⟨((HB.out.cell (World.block_lt_of_cell? w _ hw201_0)).trans hw201_0), ((HB.out.cell (World.block_lt_of_cell? w _ hw202_0)).trans hw202_0), ((HB.out.cell (World.block_lt_of_cell? w _ hw203_0)).trans hw203_0), ((HB.out.cell (World.block_lt_of_cell? w _ hw204_0)).trans hw204_0)⟩ (fun hHeld => ?_)
           clear hK K
           refine norm_ (a' := ?_) ?_ ?_
           rotate_left
           ·show Act.put _ (some 25) _ = _
            xsp_ i64_w i32_w
            rfl
           refine pure_ (i := 5) (N := some 26) (v := ?_) (a' := ?_) #[true, true, true, true, true, true, false] rfl rfl (by kernel_rfl) (fun _ _ _ h => h) (Or.inl ⟨by rfl, ?_⟩) ?_ ?_
           rotate_left
           ·intro w'
            go_simp
            rw [XFn.eqA4 _ 9998 Try.underlying61 Try.underlying5 (by kernel_rfl) (by kernel_rfl)]
            simp only [Result.andThen_ok]
            try simp only [c11b0, Bool.true_and, Bool.false_and, Bool.not_true, Bool.not_false]
            try simp only [c12b0, Bool.true_and, Bool.false_and, Bool.not_true, Bool.not_false]
            try simp only [c13b0, Bool.true_and, Bool.false_and, Bool.not_true, Bool.not_false]
            try simp only [c14b0, Bool.true_and, Bool.false_and, Bool.not_true, Bool.not_false]
            with_reducible rfl
           rotate_left
           ·xsp_ i64_w i32_w
            rfl
           refine pure_ (i := 6) (N := some 20) (v := ?_) (a' := ?_) #[true, true, true, true, true, true, true] rfl rfl (by kernel_rfl) (fun _ _ _ h => h) (Or.inl ⟨by rfl, ?_⟩) ?_ ?_
           rotate_left
           ·intro w'
            go_simp
            with_reducible rfl
           rotate_left
           ·xsp_ i64_w i32_w
            rfl
           refine done_ (by kernel_rfl) ?_
           have hcz103_0 : w102.cell? ⟨gb196, 0, none⟩ = some (.int .i64 0) := (blk_cell BK196.out 0).trans rfl
           have hcz103_1 : w102.cell? ⟨gb196, 1, none⟩ = some (.slice none 0 0) := (blk_cell BK196.out 1).trans rfl
           have hcz103_2 : w102.cell? ⟨gb196, 2, none⟩ = some (.slice none 0 0) := (blk_cell BK196.out 2).trans rfl
           have hcz103_3 : w102.cell? ⟨gb196, 3, none⟩ = some (.slice none 0 0) := (blk_cell BK196.out 3).trans rfl
           have hfz103_0 := blk_frozen BK196.out 0
           have hfz103_1 := blk_frozen BK196.out 1
           have hfz103_2 := blk_frozen BK196.out 2
           have hfz103_3 := blk_frozen BK196.out 3
           try go_wp2
           refine bodyPost_ret (results_ct rfl _ _ gb196 26 #[.int .i64 0, .slice none 0 0, .slice none 0 0, .slice none 0 0] (0, 0) _ rfl (by xkb_; refine blk_put (cs := #[.int .i64 0, .slice none 0 0, .slice none 0 0, .slice none 0 0]) ?_ 3 _ rfl; xkb_; refine blk_put (cs := #[.int .i64 0, .slice none 0 0, .slice none 0 0, .slice none 0 0]) ?_ 2 _ rfl; xkb_; refine blk_put (cs := #[.int .i64 0, .slice none 0 0, .slice none 0 0, .slice none 0 0]) ?_ 1 _ rfl; xkb_; refine blk_put (cs := #[.int .i64 0, .slice none 0 0, .slice none 0 0, .slice none 0 0]) ?_ 0 _ rfl; xkb_; exact BK196.out) Try.underlying26 rfl (by kernel_rfl)) rfl ?_
           exact ⟨_, _, _, by first | rfl | (simp [errW_none, errW_some] <;> rfl) | (simp [*, errW_none, errW_some] <;> rfl), by xni_, by first | exact Kd.S_nil _ _ _ _ _ | exact Kd.N_nil _ _ _ _ _ | exact Kd.V_nil _ _ _ _ _ | exact Kd.Q_nil _ _ _ _ _ | exact Kd.R_nil _ _ _ _ _, by xni_, by repeat (first | (with_reducible first | exact HB.out | apply below_alloc | apply pw_below_drewN | apply below_drew1 | refine below_set ?_ GE196.out) | exact HB.out)⟩
         ·rw [if_neg c13] at H
          have c13b0 : ((rd y197 2) == t207) = false := beq_eq_false_iff_ne.mpr c13
          have c13b1 : ((rd y197 2) != t207) = true := bne_iff_ne.mpr c13
          simp only [Option.some.injEq, Prod.mk.injEq] at H
          obtain ⟨rfl, rfl, rfl, rfl, rfl⟩ := H
          go_enter Try.func14, Try.ntmps14
          try go_wp2_with (first | ((with_reducible refine gate_dst (N := 2) rfl ?_); xgg_; refine box_event ?hg (N := 2) ?hd (cs := #[.int .i64 0, .slice none 0 0, .slice none 0 0, .slice none 0 0]) (t := 26) ?hr ?_; (case hd => rfl); (case hg => rfl); (case hr => xgs_); intro gb196 hg w104 hbox hb; have n0_ := Aside0.mk (below_step (by repeat (first | (with_reducible first | exact HB.out | apply below_alloc | apply pw_below_drewN | apply below_drew1) | exact HB.out)) hb); have n1_ := Aside0.mk (hbox); have n2_ := Aside0.mk ((by rw [hg]; exact (below_size (by repeat (first | (with_reducible first | exact HB.out | apply below_alloc | apply pw_below_drewN | apply below_drew1) | exact HB.out))) : w.heap.size ≤ gb196)); have n3_ := Aside0.mk ((by rw [hg]; exact (below_size (by repeat (first | (with_reducible first | exact HB.out | apply below_alloc | apply pw_below_drewN | apply below_drew1) | exact HB.out))) : w.heap.size ≤ gb196)); clear HB; have HB := n0_; have BK196 := n1_; have GW196 := n2_; have GE196 := n3_; clear n0_ n1_ n2_ n3_; clear hb hbox hg))
          have n0_ := Aside0.mk (blk_drew BK196.out)
          have n1_ := Aside0.mk (below_drew1 HB.out)
          clear BK196
          clear HB
          have BK196 := n0_
          have HB := n1_
          clear n0_ n1_
          have q106 : (4 : Int) ≤ ((l0.length : Int) : Int) := of_decide_eq_true (by xas_)
          obtain ⟨i0106, hi0106, _, hsz106, _⟩ := info_parts info5
          have hroom106 : l0.length ≤ c0 := HC0.out
          have hC106 : Kd.C (Kd.int .u8) _ A0 l0.length l0 := HR0.out
          have hcut106 := cut_to (P := Try.prog) 27 5 .i64 Try.underlying27 hi0106 A0 l0.length c0 4 (by omega) q106 hroom106
          have hr106 := Kd.C_take (m := 4) hC106 (by omega)
          have hy106 : y197.length = (4 : Int).toNat := (by rw [Ny197.out, List.length_take]; omega)
          rw [← Ny197.out] at hr106
          rw [← hy106] at hcut106
          have HR200 := Aside0.mk hr106
          have HC200 := Aside0.mk (show y197.length ≤ c0 from by omega)
          clear hr106 hC106 hroom106 hi0106 hsz106
          have KY106 := Aside0.mk hy106
          clear hy106
          replace q106 := eq_true q106
          have p201 : 0 ≤ (0 : Int) := (by omega)
          have q201 : 0 < (y197.length : Int) := of_decide_eq_true (by xas_)
          obtain ⟨ad201, e201, hx201_0⟩ := Kd.at_int HR200.out 0 p201 q201
          have hw201_0 := hx201_0
          (try rw [show ((0 : Int)).toNat = 0 from rfl] at hw201_0)
          (try rw [show 0 * 1 = 0 from rfl] at hw201_0)
          (try rw [Addr.add_zero'] at hw201_0)
          cases e201
          have qi201 : (0 < y197.length) = True := eq_true (by omega)
          (try rw [show ((0 : Int)).toNat = 0 from rfl] at hx201_0)
          (try rw [Addr.add_zero'] at hx201_0)
          replace hx201_0 := (HB.out.cell (World.block_lt_of_cell? w _ hx201_0)).trans hx201_0
          replace p201 := eq_true p201
          replace q201 := eq_true q201
          have p202 : 0 ≤ (1 : Int) := (by omega)
          have q202 : 1 < (y197.length : Int) := of_decide_eq_true (by xas_)
          obtain ⟨ad202, e202, hx202_0⟩ := Kd.at_int HR200.out 1 p202 q202
          have hw202_0 := hx202_0
          (try rw [show ((1 : Int)).toNat = 1 from rfl] at hw202_0)
          (try rw [show 1 * 1 = 1 from rfl] at hw202_0)
          (try simp only [Nat.reduceMul, Nat.reduceEqDiff, Go.Addr.add, ↓reduceIte] at hw202_0)
          obtain rfl : ad201 = ad202 := (by injection e202)
          (try simp only [show (1 : Int).toNat = 1 from rfl, Nat.reduceMul, Nat.reduceEqDiff, Go.Addr.add, ↓reduceIte] at hx202_0)
          have qi202 : (1 < y197.length) = True := eq_true (by omega)
          (try rw [show ((1 : Int)).toNat = 1 from rfl] at hx202_0)
          replace hx202_0 := (HB.out.cell (World.block_lt_of_cell? w _ hx202_0)).trans hx202_0
          replace p202 := eq_true p202
          replace q202 := eq_true q202
          have p203 : 0 ≤ (2 : Int) := (by omega)
          have q203 : 2 < (y197.length : Int) := of_decide_eq_true (by xas_)
          obtain ⟨ad203, e203, hx203_0⟩ := Kd.at_int HR200.out 2 p203 q203
          have hw203_0 := hx203_0
          (try rw [show ((2 : Int)).toNat = 2 from rfl] at hw203_0)
          (try rw [show 2 * 1 = 2 from rfl] at hw203_0)
          (try simp only [Nat.reduceMul, Nat.reduceEqDiff, Go.Addr.add, ↓reduceIte] at hw203_0)
          obtain rfl : ad201 = ad203 := (by injection e203)
          (try simp only [show (2 : Int).toNat = 2 from rfl, Nat.reduceMul, Nat.reduceEqDiff, Go.Addr.add, ↓reduceIte] at hx203_0)
          have qi203 : (2 < y197.length) = True := eq_true (by omega)
          (try rw [show ((2 : Int)).toNat = 2 from rfl] at hx203_0)
          replace hx203_0 := (HB.out.cell (World.block_lt_of_cell? w _ hx203_0)).trans hx203_0
          replace p203 := eq_true p203
          replace q203 := eq_true q203
          have p204 : 0 ≤ (3 : Int) := (by omega)
          have q204 : 3 < (y197.length : Int) := of_decide_eq_true (by xas_)
          obtain ⟨ad204, e204, hx204_0⟩ := Kd.at_int HR200.out 3 p204 q204
          have hw204_0 := hx204_0
          (try rw [show ((3 : Int)).toNat = 3 from rfl] at hw204_0)
          (try rw [show 3 * 1 = 3 from rfl] at hw204_0)
          (try simp only [Nat.reduceMul, Nat.reduceEqDiff, Go.Addr.add, ↓reduceIte] at hw204_0)
          obtain rfl : ad201 = ad204 := (by injection e204)
          (try simp only [show (3 : Int).toNat = 3 from rfl, Nat.reduceMul, Nat.reduceEqDiff, Go.Addr.add, ↓reduceIte] at hx204_0)
          have qi204 : (3 < y197.length) = True := eq_true (by omega)
          (try rw [show ((3 : Int)).toNat = 3 from rfl] at hx204_0)
          replace hx204_0 := (HB.out.cell (World.block_lt_of_cell? w _ hx204_0)).trans hx204_0
          replace p204 := eq_true p204
          replace q204 := eq_true q204
          refine start_ (n := 7) (S := fun w' => w'.cell? ad201 = some (.int .u8 (rd y197 0)) ∧ w'.cell? ⟨ad201.block, ad201.off + 1, none⟩ = some (.int .u8 (rd y197 1)) ∧ w'.cell? ⟨ad201.block, ad201.off + 2, none⟩ = some (.int .u8 (rd y197 2)) ∧ w'.cell? ⟨ad201.block, ad201.off + 3, none⟩ = some (.int .u8 (rd y197 3))) (ds := []) #[false, false, false, false, false, false, false] (by kernel_rfl) rfl rfl ⟨((HB.out.cell (World.block_lt_of_cell? w _ hw201_0)).trans hw201_0), ((HB.out.cell (World.block_lt_of_cell? w _ hw202_0)).trans hw202_0), ((HB.out.cell (World.block_lt_of_cell? w _ hw203_0)).trans hw203_0), ((HB.out.cell (World.block_lt_of_cell? w _ hw204_0)).trans hw204_0)⟩ (fun hHeld => ?_)
          generalize w104.drew = w105 at BK196 HB HR200 hx201_0 hx202_0 hx203_0 hx204_0 hHeld ⊢
          refine pure_ (i := 0) (N := some 21) (v := ?_) (a' := ?_) #[true, false, false, false, false, false, false] rfl rfl (by kernel_rfl) (fun _ _ _ h => h) (Or.inl ⟨by rfl, ?_⟩) ?_ ?_
          rotate_left
          ·intro w'
           go_simp
           with_reducible rfl
          rotate_left
          ·xsp_ i64_w i32_w
           rfl
          refine pure_ (i := 1) (N := some 22) (v := ?_) (a' := ?_) #[true, true, false, false, false, false, false] rfl rfl (by kernel_rfl) (fun _ _ _ h => h) (Or.inl ⟨by rfl, ?_⟩) ?_ ?_
          rotate_left
          ·intro w'
           go_simp
           with_reducible rfl
          rotate_left
          ·xsp_ i64_w i32_w
           rfl
          refine pure_ (i := 2) (N := some 23) (v := ?_) (a' := ?_) #[true, true, true, false, false, false, false] rfl rfl (by kernel_rfl) (fun _ _ _ h => h) (Or.inl ⟨by rfl, ?_⟩) ?_ ?_
          rotate_left
          ·intro w'
           go_simp
           rw [XFn.run_arrayAt Try.underlying61 _ _ _ (by show 3 < _; exact of_decide_eq_true (by xas_))]
           rfl
          rotate_left
          ·xsp_ i64_w i32_w
           rfl
          refine take_ (i := 3) (N := some 24) (v := ?_) (a' := ?_) #[true, true, true, true, false, false, false] rfl rfl (by kernel_rfl) (fun _ _ _ h => h) (Or.inl ⟨by rfl, ?_⟩) hHeld ?_ ?_
          rotate_left
          ·rintro w' ⟨s0, s1, s2, s3⟩
           go_simp
           with_reducible rfl
          rotate_left
          ·xsp_ i64_w i32_w
           rfl
          refine one_ (i := 4) (N := some 25) #[true, true, true, true, true, false, false] rfl rfl (by kernel_rfl) (by decide) (fun K hK => ?_)
          refine goes_ Try.func26 (by kernel_rfl) rfl #[] (by rfl) rfl rfl (by xlm_) ?_
          with_reducible refine (table_known.calls  t205 t206 t207 t208 _ A10.out).mono ?_
          rintro e w107 ⟨rfl, hb⟩
          refine ⟨_, rfl, ?_⟩
          have n0_ := Aside0.mk (blk_below (g := gb196) (o := .cells #[.int .i64 0, .slice none 0 0, .slice none 0 0, .slice none 0 0] 26 (0, 0)) (by xkb_; exact BK196.out) hb)
          have n1_ := Aside0.mk (below_step (by repeat (first | (with_reducible first | exact HB.out | apply below_alloc | apply pw_below_drewN | apply below_drew1 | refine below_set ?_ GE196.out) | exact HB.out)) hb)
          clear BK196
          clear HB
          have BK196 := n0_
          have HB := n1_
          clear n0_ n1_
          (try clear hb)
          (try clear hb2)
          (try clear hk)
          (try clear hi)
          refine hK.out _ _ ⟨((HB.out.cell (World.block_lt_of_cell? w _ hw201_0)).trans hw201_0), ((HB.out.cell (World.block_lt_of_cell? w _ hw202_0)).trans hw202_0), ((HB.out.cell (World.block_lt_of_cell? w _ hw203_0)).trans hw203_0), ((HB.out.cell (World.block_lt_of_cell? w _ hw204_0)).trans hw204_0)⟩ (fun hHeld => ?_)
          clear hK K
          refine norm_ (a' := ?_) ?_ ?_
          rotate_left
          ·show Act.put _ (some 25) _ = _
           xsp_ i64_w i32_w
           rfl
          refine pure_ (i := 5) (N := some 26) (v := ?_) (a' := ?_) #[true, true, true, true, true, true, false] rfl rfl (by kernel_rfl) (fun _ _ _ h => h) (Or.inl ⟨by rfl, ?_⟩) ?_ ?_
          rotate_left
          ·intro w'
           go_simp
           rw [XFn.eqA4 _ 9998 Try.underlying61 Try.underlying5 (by kernel_rfl) (by kernel_rfl)]
           simp only [Result.andThen_ok]
           try simp only [c11b0, Bool.true_and, Bool.false_and, Bool.not_true, Bool.not_false]
           try simp only [c12b0, Bool.true_and, Bool.false_and, Bool.not_true, Bool.not_false]
           try simp only [c13b0, Bool.true_and, Bool.false_and, Bool.not_true, Bool.not_false]
           try simp only [c14b0, Bool.true_and, Bool.false_and, Bool.not_true, Bool.not_false]
           with_reducible rfl
          rotate_left
          ·xsp_ i64_w i32_w
           rfl
          refine pure_ (i := 6) (N := some 20) (v := ?_) (a' := ?_) #[true, true, true, true, true, true, true] rfl rfl (by kernel_rfl) (fun _ _ _ h => h) (Or.inl ⟨by rfl, ?_⟩) ?_ ?_
          rotate_left
          ·intro w'
           go_simp
           with_reducible rfl
          rotate_left
          ·xsp_ i64_w i32_w
           rfl
          refine done_ (by kernel_rfl) ?_
          have hcz108_0 : w107.cell? ⟨gb196, 0, none⟩ = some (.int .i64 0) := (blk_cell BK196.out 0).trans rfl
          have hcz108_1 : w107.cell? ⟨gb196, 1, none⟩ = some (.slice none 0 0) := (blk_cell BK196.out 1).trans rfl
          have hcz108_2 : w107.cell? ⟨gb196, 2, none⟩ = some (.slice none 0 0) := (blk_cell BK196.out 2).trans rfl
          have hcz108_3 : w107.cell? ⟨gb196, 3, none⟩ = some (.slice none 0 0) := (blk_cell BK196.out 3).trans rfl
          have hfz108_0 := blk_frozen BK196.out 0
          have hfz108_1 := blk_frozen BK196.out 1
          have hfz108_2 := blk_frozen BK196.out 2
          have hfz108_3 := blk_frozen BK196.out 3
          try go_wp2
          refine bodyPost_ret (results_ct rfl _ _ gb196 26 #[.int .i64 0, .slice none 0 0, .slice none 0 0, .slice none 0 0] (0, 0) _ rfl (by xkb_; refine blk_put (cs := #[.int .i64 0, .slice none 0 0, .slice none 0 0, .slice none 0 0]) ?_ 3 _ rfl; xkb_; refine blk_put (cs := #[.int .i64 0, .slice none 0 0, .slice none 0 0, .slice none 0 0]) ?_ 2 _ rfl; xkb_; refine blk_put (cs := #[.int .i64 0, .slice none 0 0, .slice none 0 0, .slice none 0 0]) ?_ 1 _ rfl; xkb_; refine blk_put (cs := #[.int .i64 0, .slice none 0 0, .slice none 0 0, .slice none 0 0]) ?_ 0 _ rfl; xkb_; exact BK196.out) Try.underlying26 rfl (by kernel_rfl)) rfl ?_
          exact ⟨_, _, _, by first | rfl | (simp [errW_none, errW_some] <;> rfl) | (simp [*, errW_none, errW_some] <;> rfl), by xni_, by first | exact Kd.S_nil _ _ _ _ _ | exact Kd.N_nil _ _ _ _ _ | exact Kd.V_nil _ _ _ _ _ | exact Kd.Q_nil _ _ _ _ _ | exact Kd.R_nil _ _ _ _ _, by xni_, by repeat (first | (with_reducible first | exact HB.out | apply below_alloc | apply pw_below_drewN | apply below_drew1 | refine below_set ?_ GE196.out) | exact HB.out)⟩
        ·rw [if_neg c12] at H
         have c12b0 : ((rd y197 1) == t206) = false := beq_eq_false_iff_ne.mpr c12
         have c12b1 : ((rd y197 1) != t206) = true := bne_iff_ne.mpr c12
         simp only [Option.some.injEq, Prod.mk.injEq] at H
         obtain ⟨rfl, rfl, rfl, rfl, rfl⟩ := H
         go_enter Try.func14, Try.ntmps14
         try go_wp2_with (first | ((with_reducible refine gate_dst (N := 2) rfl ?_); xgg_; refine box_event ?hg (N := 2) ?hd (cs := #[.int .i64 0, .slice none 0 0, .slice none 0 0, .slice none 0 0]) (t := 26) ?hr ?_; (case hd => rfl); (case hg => rfl); (case hr => xgs_); intro gb196 hg w109 hbox hb; have n0_ := Aside0.mk (below_step (by repeat (first | (with_reducible first | exact HB.out | apply below_alloc | apply pw_below_drewN | apply below_drew1) | exact HB.out)) hb); have n1_ := Aside0.mk (hbox); have n2_ := Aside0.mk ((by rw [hg]; exact (below_size (by repeat (first | (with_reducible first | exact HB.out | apply below_alloc | apply pw_below_drewN | apply below_drew1) | exact HB.out))) : w.heap.size ≤ gb196)); have n3_ := Aside0.mk ((by rw [hg]; exact (below_size (by repeat (first | (with_reducible first | exact HB.out | apply below_alloc | apply pw_below_drewN | apply below_drew1) | exact HB.out))) : w.heap.size ≤ gb196)); clear HB; have HB := n0_; have BK196 := n1_; have GW196 := n2_; have GE196 := n3_; clear n0_ n1_ n2_ n3_; clear hb hbox hg))
         have n0_ := Aside0.mk (blk_drew BK196.out)
         have n1_ := Aside0.mk (below_drew1 HB.out)
         clear BK196
         clear HB
         have BK196 := n0_
         have HB := n1_
         clear n0_ n1_
         have q111 : (4 : Int) ≤ ((l0.length : Int) : Int) := of_decide_eq_true (by xas_)
         obtain ⟨i0111, hi0111, _, hsz111, _⟩ := info_parts info5
         have hroom111 : l0.length ≤ c0 := HC0.out
         have hC111 : Kd.C (Kd.int .u8) _ A0 l0.length l0 := HR0.out
         have hcut111 := cut_to (P := Try.prog) 27 5 .i64 Try.underlying27 hi0111 A0 l0.length c0 4 (by omega) q111 hroom111
         have hr111 := Kd.C_take (m := 4) hC111 (by omega)
         have hy111 : y197.length = (4 : Int).toNat := (by rw [Ny197.out, List.length_take]; omega)
         rw [← Ny197.out] at hr111
         rw [← hy111] at hcut111
         have HR200 := Aside0.mk hr111
         have HC200 := Aside0.mk (show y197.length ≤ c0 from by omega)
         clear hr111 hC111 hroom111 hi0111 hsz111
         have KY111 := Aside0.mk hy111
         clear hy111
         replace q111 := eq_true q111
         have p201 : 0 ≤ (0 : Int) := (by omega)
         have q201 : 0 < (y197.length : Int) := of_decide_eq_true (by xas_)
         obtain ⟨ad201, e201, hx201_0⟩ := Kd.at_int HR200.out 0 p201 q201
         have hw201_0 := hx201_0
         (try rw [show ((0 : Int)).toNat = 0 from rfl] at hw201_0)
         (try rw [show 0 * 1 = 0 from rfl] at hw201_0)
         (try rw [Addr.add_zero'] at hw201_0)
         cases e201
         have qi201 : (0 < y197.length) = True := eq_true (by omega)
         (try rw [show ((0 : Int)).toNat = 0 from rfl] at hx201_0)
         (try rw [Addr.add_zero'] at hx201_0)
         replace hx201_0 := (HB.out.cell (World.block_lt_of_cell? w _ hx201_0)).trans hx201_0
         replace p201 := eq_true p201
         replace q201 := eq_true q201
         have p202 : 0 ≤ (1 : Int) := (by omega)
         have q202 : 1 < (y197.length : Int) := of_decide_eq_true (by xas_)
         obtain ⟨ad202, e202, hx202_0⟩ := Kd.at_int HR200.out 1 p202 q202
         have hw202_0 := hx202_0
         (try rw [show ((1 : Int)).toNat = 1 from rfl] at hw202_0)
         (try rw [show 1 * 1 = 1 from rfl] at hw202_0)
         (try simp only [Nat.reduceMul, Nat.reduceEqDiff, Go.Addr.add, ↓reduceIte] at hw202_0)
         obtain rfl : ad201 = ad202 := (by injection e202)
         (try simp only [show (1 : Int).toNat = 1 from rfl, Nat.reduceMul, Nat.reduceEqDiff, Go.Addr.add, ↓reduceIte] at hx202_0)
         have qi202 : (1 < y197.length) = True := eq_true (by omega)
         (try rw [show ((1 : Int)).toNat = 1 from rfl] at hx202_0)
         replace hx202_0 := (HB.out.cell (World.block_lt_of_cell? w _ hx202_0)).trans hx202_0
         replace p202 := eq_true p202
         replace q202 := eq_true q202
         have p203 : 0 ≤ (2 : Int) := (by omega)
         have q203 : 2 < (y197.length : Int) := of_decide_eq_true (by xas_)
         obtain ⟨ad203, e203, hx203_0⟩ := Kd.at_int HR200.out 2 p203 q203
         have hw203_0 := hx203_0
         (try rw [show ((2 : Int)).toNat = 2 from rfl] at hw203_0)
         (try rw [show 2 * 1 = 2 from rfl] at hw203_0)
         (try simp only [Nat.reduceMul, Nat.reduceEqDiff, Go.Addr.add, ↓reduceIte] at hw203_0)
         obtain rfl : ad201 = ad203 := (by injection e203)
         (try simp only [show (2 : Int).toNat = 2 from rfl, Nat.reduceMul, Nat.reduceEqDiff, Go.Addr.add, ↓reduceIte] at hx203_0)
         have qi203 : (2 < y197.length) = True := eq_true (by omega)
         (try rw [show ((2 : Int)).toNat = 2 from rfl] at hx203_0)
         replace hx203_0 := (HB.out.cell (World.block_lt_of_cell? w _ hx203_0)).trans hx203_0
         replace p203 := eq_true p203
         replace q203 := eq_true q203
         have p204 : 0 ≤ (3 : Int) := (by omega)
         have q204 : 3 < (y197.length : Int) := of_decide_eq_true (by xas_)
         obtain ⟨ad204, e204, hx204_0⟩ := Kd.at_int HR200.out 3 p204 q204
         have hw204_0 := hx204_0
         (try rw [show ((3 : Int)).toNat = 3 from rfl] at hw204_0)
         (try rw [show 3 * 1 = 3 from rfl] at hw204_0)
         (try simp only [Nat.reduceMul, Nat.reduceEqDiff, Go.Addr.add, ↓reduceIte] at hw204_0)
         obtain rfl : ad201 = ad204 := (by injection e204)
         (try simp only [show (3 : Int).toNat = 3 from rfl, Nat.reduceMul, Nat.reduceEqDiff, Go.Addr.add, ↓reduceIte] at hx204_0)
         have qi204 : (3 < y197.length) = True := eq_true (by omega)
         (try rw [show ((3 : Int)).toNat = 3 from rfl] at hx204_0)
         replace hx204_0 := (HB.out.cell (World.block_lt_of_cell? w _ hx204_0)).trans hx204_0
         replace p204 := eq_true p204
         replace q204 := eq_true q204
         refine start_ (n := 7) (S := fun w' => w'.cell? ad201 = some (.int .u8 (rd y197 0)) ∧ w'.cell? ⟨ad201.block, ad201.off + 1, none⟩ = some (.int .u8 (rd y197 1)) ∧ w'.cell? ⟨ad201.block, ad201.off + 2, none⟩ = some (.int .u8 (rd y197 2)) ∧ w'.cell? ⟨ad201.block, ad201.off + 3, none⟩ = some (.int .u8 (rd y197 3))) (ds := []) #[false, false, false, false, false, false, false] (by kernel_rfl) rfl rfl ⟨((HB.out.cell (World.block_lt_of_cell? w _ hw201_0)).trans hw201_0), ((HB.out.cell (World.block_lt_of_cell? w _ hw202_0)).trans hw202_0), ((HB.out.cell (World.block_lt_of_cell? w _ hw203_0)).trans hw203_0), ((HB.out.cell (World.block_lt_of_cell? w _ hw204_0)).trans hw204_0)⟩ (fun hHeld => ?_)
         generalize w109.drew = w110 at BK196 HB HR200 hx201_0 hx202_0 hx203_0 hx204_0 hHeld ⊢
         refine pure_ (i := 0) (N := some 21) (v := ?_) (a' := ?_) #[true, false, false, false, false, false, false] rfl rfl (by kernel_rfl) (fun _ _ _ h => h) (Or.inl ⟨by rfl, ?_⟩) ?_ ?_
         rotate_left
         ·intro w'
          go_simp
          with_reducible rfl
         rotate_left
         ·xsp_ i64_w i32_w
          rfl
         refine pure_ (i := 1) (N := some 22) (v := ?_) (a' := ?_) #[true, true, false, false, false, false, false] rfl rfl (by kernel_rfl) (fun _ _ _ h => h) (Or.inl ⟨by rfl, ?_⟩) ?_ ?_
         rotate_left
         ·intro w'
          go_simp
          with_reducible rfl
         rotate_left
         ·xsp_ i64_w i32_w
          rfl
         refine pure_ (i := 2) (N := some 23) (v := ?_) (a' := ?_) #[true, true, true, false, false, false, false] rfl rfl (by kernel_rfl) (fun _ _ _ h => h) (Or.inl ⟨by rfl, ?_⟩) ?_ ?_
         rotate_left
         ·intro w'
          go_simp
          rw [XFn.run_arrayAt Try.underlying61 _ _ _ (by show 3 < _; exact of_decide_eq_true (by xas_))]
          rfl
         rotate_left
         ·xsp_ i64_w i32_w
          rfl
         refine take_ (i := 3) (N := some 24) (v := ?_) (a' := ?_) #[true, true, true, true, false, false, false] rfl rfl (by kernel_rfl) (fun _ _ _ h => h) (Or.inl ⟨by rfl, ?_⟩) hHeld ?_ ?_
         rotate_left
         ·rintro w' ⟨s0, s1, s2, s3⟩
          go_simp
          with_reducible rfl
         rotate_left
         ·xsp_ i64_w i32_w
          rfl
         refine one_ (i := 4) (N := some 25) #[true, true, true, true, true, false, false] rfl rfl (by kernel_rfl) (by decide) (fun K hK => ?_)
         refine goes_ Try.func26 (by kernel_rfl) rfl #[] (by rfl) rfl rfl (by xlm_) ?_
         with_reducible refine (table_known.calls  t205 t206 t207 t208 _ A10.out).mono ?_
         rintro e w112 ⟨rfl, hb⟩
         refine ⟨_, rfl, ?_⟩
         have n0_ := Aside0.mk (blk_below (g := gb196) (o := .cells #[.int .i64 0, .slice none 0 0, .slice none 0 0, .slice none 0 0] 26 (0, 0)) (by xkb_; exact BK196.out) hb)
         have n1_ := Aside0.mk (below_step (by repeat (first | (with_reducible first | exact HB.out | apply below_alloc | apply pw_below_drewN | apply below_drew1 | refine below_set ?_ GE196.out) | exact HB.out)) hb)
         clear BK196
         clear HB
         have BK196 := n0_
         have HB := n1_
         clear n0_ n1_
         (try clear hb)
         (try clear hb2)
         (try clear hk)
         (try clear hi)
         refine hK.out _ _ ⟨((HB.out.cell (World.block_lt_of_cell? w _ hw201_0)).trans hw201_0), ((HB.out.cell (World.block_lt_of_cell? w _ hw202_0)).trans hw202_0), ((HB.out.cell (World.block_lt_of_cell? w _ hw203_0)).trans hw203_0), ((HB.out.cell (World.block_lt_of_cell? w _ hw204_0)).trans hw204_0)⟩ (fun hHeld => ?_)
         clear hK K
         refine norm_ (a' := ?_) ?_ ?_
         rotate_left
         ·show Act.put _ (some 25) _ = _
          xsp_ i64_w i32_w
          rfl
         refine pure_ (i := 5) (N := some 26) (v := ?_) (a' := ?_) #[true, true, true, true, true, true, false] rfl rfl (by kernel_rfl) (fun _ _ _ h => h) (Or.inl ⟨by rfl, ?_⟩) ?_ ?_
         rotate_left
         ·intro w'
          go_simp
          rw [XFn.eqA4 _ 9998 Try.underlying61 Try.underlying5 (by kernel_rfl) (by kernel_rfl)]
          simp only [Result.andThen_ok]
          try simp only [c11b0, Bool.true_and, Bool.false_and, Bool.not_true, Bool.not_false]
          try simp only [c12b0, Bool.true_and, Bool.false_and, Bool.not_true, Bool.not_false]
          try simp only [c13b0, Bool.true_and, Bool.false_and, Bool.not_true, Bool.not_false]
          try simp only [c14b0, Bool.true_and, Bool.false_and, Bool.not_true, Bool.not_false]
          with_reducible rfl
         rotate_left
         ·xsp_ i64_w i32_w
          rfl
         refine pure_ (i := 6) (N := some 20) (v := ?_) (a' := ?_) #[true, true, true, true, true, true, true] rfl rfl (by kernel_rfl) (fun _ _ _ h => h) (Or.inl ⟨by rfl, ?_⟩) ?_ ?_
         rotate_left
         ·intro w'
          go_simp
          with_reducible rfl
         rotate_left
         ·xsp_ i64_w i32_w
          rfl
         refine done_ (by kernel_rfl) ?_
         have hcz113_0 : w112.cell? ⟨gb196, 0, none⟩ = some (.int .i64 0) := (blk_cell BK196.out 0).trans rfl
         have hcz113_1 : w112.cell? ⟨gb196, 1, none⟩ = some (.slice none 0 0) := (blk_cell BK196.out 1).trans rfl
         have hcz113_2 : w112.cell? ⟨gb196, 2, none⟩ = some (.slice none 0 0) := (blk_cell BK196.out 2).trans rfl
         have hcz113_3 : w112.cell? ⟨gb196, 3, none⟩ = some (.slice none 0 0) := (blk_cell BK196.out 3).trans rfl
         have hfz113_0 := blk_frozen BK196.out 0
         have hfz113_1 := blk_frozen BK196.out 1
         have hfz113_2 := blk_frozen BK196.out 2
         have hfz113_3 := blk_frozen BK196.out 3
         try go_wp2
         refine bodyPost_ret (results_ct rfl _ _ gb196 26 #[.int .i64 0, .slice none 0 0, .slice none 0 0, .slice none 0 0] (0, 0) _ rfl (by xkb_; refine blk_put (cs := #[.int .i64 0, .slice none 0 0, .slice none 0 0, .slice none 0 0]) ?_ 3 _ rfl; xkb_; refine blk_put (cs := #[.int .i64 0, .slice none 0 0, .slice none 0 0, .slice none 0 0]) ?_ 2 _ rfl; xkb_; refine blk_put (cs := #[.int .i64 0, .slice none 0 0, .slice none 0 0, .slice none 0 0]) ?_ 1 _ rfl; xkb_; refine blk_put (cs := #[.int .i64 0, .slice none 0 0, .slice none 0 0, .slice none 0 0]) ?_ 0 _ rfl; xkb_; exact BK196.out) Try.underlying26 rfl (by kernel_rfl)) rfl ?_
         exact ⟨_, _, _, by first | rfl | (simp [errW_none, errW_some] <;> rfl) | (simp [*, errW_none, errW_some] <;> rfl), by xni_, by first | exact Kd.S_nil _ _ _ _ _ | exact Kd.N_nil _ _ _ _ _ | exact Kd.V_nil _ _ _ _ _ | exact Kd.Q_nil _ _ _ _ _ | exact Kd.R_nil _ _ _ _ _, by xni_, by repeat (first | (with_reducible first | exact HB.out | apply below_alloc | apply pw_below_drewN | apply below_drew1 | refine below_set ?_ GE196.out) | exact HB.out)⟩
       ·rw [if_neg c11] at H
        have c11b0 : ((rd y197 0) == t205) = false := beq_eq_false_iff_ne.mpr c11
        have c11b1 : ((rd y197 0) != t205) = true := bne_iff_ne.mpr c11
        simp only [Option.some.injEq, Prod.mk.injEq] at H
        obtain ⟨rfl, rfl, rfl, rfl, rfl⟩ := H
        go_enter Try.func14, Try.ntmps14
        try go_wp2_with (first | ((with_reducible refine gate_dst (N := 2) rfl ?_); xgg_; refine box_event ?hg (N := 2) ?hd (cs := #[.int .i64 0, .slice none 0 0, .slice none 0 0, .slice none 0 0]) (t := 26) ?hr ?_; (case hd => rfl); (case hg => rfl); (case hr => xgs_); intro gb196 hg w114 hbox hb; have n0_ := Aside0.mk (below_step (by repeat (first | (with_reducible first | exact HB.out | apply below_alloc | apply pw_below_drewN | apply below_drew1) | exact HB.out)) hb); have n1_ := Aside0.mk (hbox); have n2_ := Aside0.mk ((by rw [hg]; exact (below_size (by repeat (first | (with_reducible first | exact HB.out | apply below_alloc | apply pw_below_drewN | apply below_drew1) | exact HB.out))) : w.heap.size ≤ gb196)); have n3_ := Aside0.mk ((by rw [hg]; exact (below_size (by repeat (first | (with_reducible first | exact HB.out | apply below_alloc | apply pw_below_drewN | apply below_drew1) | exact HB.out))) : w.heap.size ≤ gb196)); clear HB; have HB := n0_; have BK196 := n1_; have GW196 := n2_; have GE196 := n3_; clear n0_ n1_ n2_ n3_; clear hb hbox hg))
        have n0_ := Aside0.mk (blk_drew BK196.out)
        have n1_ := Aside0.mk (below_drew1 HB.out)
        clear BK196
        clear HB
        have BK196 := n0_
        have HB := n1_
        clear n0_ n1_
        have q116 : (4 : Int) ≤ ((l0.length : Int) : Int) := of_decide_eq_true (by xas_)
        obtain ⟨i0116, hi0116, _, hsz116, _⟩ := info_parts info5
        have hroom116 : l0.length ≤ c0 := HC0.out
        have hC116 : Kd.C (Kd.int .u8) _ A0 l0.length l0 := HR0.out
        have hcut116 := cut_to (P := Try.prog) 27 5 .i64 Try.underlying27 hi0116 A0 l0.length c0 4 (by omega) q116 hroom116
        have hr116 := Kd.C_take (m := 4) hC116 (by omega)
        have hy116 : y197.length = (4 : Int).toNat := (by rw [Ny197.out, List.length_take]; omega)
        rw [← Ny197.out] at hr116
        rw [← hy116] at hcut116
        have HR200 := Aside0.mk hr116
        have HC200 := Aside0.mk (show y197.length ≤ c0 from by omega)
        clear hr116 hC116 hroom116 hi0116 hsz116
        have KY116 := Aside0.mk hy116
        clear hy116
        replace q116 := eq_true q116
        have p201 : 0 ≤ (0 : Int) := (by omega)
        have q201 : 0 < (y197.length : Int) := of_decide_eq_true (by xas_)
        obtain ⟨ad201, e201, hx201_0⟩ := Kd.at_int HR200.out 0 p201 q201
        have hw201_0 := hx201_0
        (try rw [show ((0 : Int)).toNat = 0 from rfl] at hw201_0)
        (try rw [show 0 * 1 = 0 from rfl] at hw201_0)
        (try rw [Addr.add_zero'] at hw201_0)
        cases e201
        have qi201 : (0 < y197.length) = True := eq_true (by omega)
        (try rw [show ((0 : Int)).toNat = 0 from rfl] at hx201_0)
        (try rw [Addr.add_zero'] at hx201_0)
        replace hx201_0 := (HB.out.cell (World.block_lt_of_cell? w _ hx201_0)).trans hx201_0
        replace p201 := eq_true p201
        replace q201 := eq_true q201
        have p202 : 0 ≤ (1 : Int) := (by omega)
        have q202 : 1 < (y197.length : Int) := of_decide_eq_true (by xas_)
        obtain ⟨ad202, e202, hx202_0⟩ := Kd.at_int HR200.out 1 p202 q202
        have hw202_0 := hx202_0
        (try rw [show ((1 : Int)).toNat = 1 from rfl] at hw202_0)
        (try rw [show 1 * 1 = 1 from rfl] at hw202_0)
        (try simp only [Nat.reduceMul, Nat.reduceEqDiff, Go.Addr.add, ↓reduceIte] at hw202_0)
        obtain rfl : ad201 = ad202 := (by injection e202)
        (try simp only [show (1 : Int).toNat = 1 from rfl, Nat.reduceMul, Nat.reduceEqDiff, Go.Addr.add, ↓reduceIte] at hx202_0)
        have qi202 : (1 < y197.length) = True := eq_true (by omega)
        (try rw [show ((1 : Int)).toNat = 1 from rfl] at hx202_0)
        replace hx202_0 := (HB.out.cell (World.block_lt_of_cell? w _ hx202_0)).trans hx202_0
        replace p202 := eq_true p202
        replace q202 := eq_true q202
        have p203 : 0 ≤ (2 : Int) := (by omega)
        have q203 : 2 < (y197.length : Int) := of_decide_eq_true (by xas_)
        obtain ⟨ad203, e203, hx203_0⟩ := Kd.at_int HR200.out 2 p203 q203
        have hw203_0 := hx203_0
        (try rw [show ((2 : Int)).toNat = 2 from rfl] at hw203_0)
        (try rw [show 2 * 1 = 2 from rfl] at hw203_0)
        (try simp only [Nat.reduceMul, Nat.reduceEqDiff, Go.Addr.add, ↓reduceIte] at hw203_0)
        obtain rfl : ad201 = ad203 := (by injection e203)
        (try simp only [show (2 : Int).toNat = 2 from rfl, Nat.reduceMul, Nat.reduceEqDiff, Go.Addr.add, ↓reduceIte] at hx203_0)
        have qi203 : (2 < y197.length) = True := eq_true (by omega)
        (try rw [show ((2 : Int)).toNat = 2 from rfl] at hx203_0)
        replace hx203_0 := (HB.out.cell (World.block_lt_of_cell? w _ hx203_0)).trans hx203_0
        replace p203 := eq_true p203
        replace q203 := eq_true q203
        have p204 : 0 ≤ (3 : Int) := (by omega)
        have q204 : 3 < (y197.length : Int) := of_decide_eq_true (by xas_)
        obtain ⟨ad204, e204, hx204_0⟩ := Kd.at_int HR200.out 3 p204 q204
        have hw204_0 := hx204_0
        (try rw [show ((3 : Int)).toNat = 3 from rfl] at hw204_0)
        (try rw [show 3 * 1 = 3 from rfl] at hw204_0)
        (try simp only [Nat.reduceMul, Nat.reduceEqDiff, Go.Addr.add, ↓reduceIte] at hw204_0)
        obtain rfl : ad201 = ad204 := (by injection e204)
        (try simp only [show (3 : Int).toNat = 3 from rfl, Nat.reduceMul, Nat.reduceEqDiff, Go.Addr.add, ↓reduceIte] at hx204_0)
        have qi204 : (3 < y197.length) = True := eq_true (by omega)
        (try rw [show ((3 : Int)).toNat = 3 from rfl] at hx204_0)
        replace hx204_0 := (HB.out.cell (World.block_lt_of_cell? w _ hx204_0)).trans hx204_0
        replace p204 := eq_true p204
        replace q204 := eq_true q204
        refine start_ (n := 7) (S := fun w' => w'.cell? ad201 = some (.int .u8 (rd y197 0)) ∧ w'.cell? ⟨ad201.block, ad201.off + 1, none⟩ = some (.int .u8 (rd y197 1)) ∧ w'.cell? ⟨ad201.block, ad201.off + 2, none⟩ = some (.int .u8 (rd y197 2)) ∧ w'.cell? ⟨ad201.block, ad201.off + 3, none⟩ = some (.int .u8 (rd y197 3))) (ds := []) #[false, false, false, false, false, false, false] (by kernel_rfl) rfl rfl ⟨((HB.out.cell (World.block_lt_of_cell? w _ hw201_0)).trans hw201_0), ((HB.out.cell (World.block_lt_of_cell? w _ hw202_0)).trans hw202_0), ((HB.out.cell (World.block_lt_of_cell? w _ hw203_0)).trans hw203_0), ((HB.out.cell (World.block_lt_of_cell? w _ hw204_0)).trans hw204_0)⟩ (fun hHeld => ?_)
        generalize w114.drew = w115 at BK196 HB HR200 hx201_0 hx202_0 hx203_0 hx204_0 hHeld ⊢
        refine pure_ (i := 0) (N := some 21) (v := ?_) (a' := ?_) #[true, false, false, false, false, false, false] rfl rfl (by kernel_rfl) (fun _ _ _ h => h) (Or.inl ⟨by rfl, ?_⟩) ?_ ?_
        rotate_left
        ·intro w'
         go_simp
         with_reducible rfl
        rotate_left
        ·xsp_ i64_w i32_w
         rfl
        refine pure_ (i := 1) (N := some 22) (v := ?_) (a' := ?_) #[true, true, false, false, false, false, false] rfl rfl (by kernel_rfl) (fun _ _ _ h => h) (Or.inl ⟨by rfl, ?_⟩) ?_ ?_
        rotate_left
        ·intro w'
         go_simp
         with_reducible rfl
        rotate_left
        ·xsp_ i64_w i32_w
         rfl
        refine pure_ (i := 2) (N := some 23) (v := ?_) (a' := ?_) #[true, true, true, false, false, false, false] rfl rfl (by kernel_rfl) (fun _ _ _ h => h) (Or.inl ⟨by rfl, ?_⟩) ?_ ?_
        rotate_left
        ·intro w'
         go_simp
         rw [XFn.run_arrayAt Try.underlying61 _ _ _ (by show 3 < _; exact of_decide_eq_true (by xas_))]
         rfl
        rotate_left
        ·xsp_ i64_w i32_w
         rfl
        refine take_ (i := 3) (N := some 24) (v := ?_) (a' := ?_) #[true, true, true, true, false, false, false] rfl rfl (by kernel_rfl) (fun _ _ _ h => h) (Or.inl ⟨by rfl, ?_⟩) hHeld ?_ ?_
        rotate_left
        ·rintro w' ⟨s0, s1, s2, s3⟩
         go_simp
         with_reducible rfl
        rotate_left
        ·xsp_ i64_w i32_w
         rfl
        refine one_ (i := 4) (N := some 25) #[true, true, true, true, true, false, false] rfl rfl (by kernel_rfl) (by decide) (fun K hK => ?_)
        refine goes_ Try.func26 (by kernel_rfl) rfl #[] (by rfl) rfl rfl (by xlm_) ?_
        with_reducible refine (table_known.calls  t205 t206 t207 t208 _ A10.out).mono ?_
        rintro e w117 ⟨rfl, hb⟩
        refine ⟨_, rfl, ?_⟩
        have n0_ := Aside0.mk (blk_below (g := gb196) (o := .cells #[.int .i64 0, .slice none 0 0, .slice none 0 0, .slice none 0 0] 26 (0, 0)) (by xkb_; exact BK196.out) hb)
        have n1_ := Aside0.mk (below_step (by repeat (first | (with_reducible first | exact HB.out | apply below_alloc | apply pw_below_drewN | apply below_drew1 | refine below_set ?_ GE196.out) | exact HB.out)) hb)
        clear BK196
        clear HB
        have BK196 := n0_
        have HB := n1_
        clear n0_ n1_
        (try clear hb)
        (try clear hb2)
        (try clear hk)
        (try clear hi)
        refine hK.out _ _ ⟨((HB.out.cell (World.block_lt_of_cell? w _ hw201_0)).trans hw201_0), ((HB.out.cell (World.block_lt_of_cell? w _ hw202_0)).trans hw202_0), ((HB.out.cell (World.block_lt_of_cell? w _ hw203_0)).trans hw203_0), ((HB.out.cell (World.block_lt_of_cell? w _ hw204_0)).trans hw204_0)⟩ (fun hHeld => ?_)
        clear hK K
        refine norm_ (a' := ?_) ?_ ?_
        rotate_left
        ·show Act.put _ (some 25) _ = _
         xsp_ i64_w i32_w
         rfl
        refine pure_ (i := 5) (N := some 26) (v := ?_) (a' := ?_) #[true, true, true, true, true, true, false] rfl rfl (by kernel_rfl) (fun _ _ _ h => h) (Or.inl ⟨by rfl, ?_⟩) ?_ ?_
        rotate_left
        ·intro w'
         go_simp
         rw [XFn.eqA4 _ 9998 Try.underlying61 Try.underlying5 (by kernel_rfl) (by kernel_rfl)]
         simp only [Result.andThen_ok]
         try simp only [c11b0, Bool.true_and, Bool.false_and, Bool.not_true, Bool.not_false]
         try simp only [c12b0, Bool.true_and, Bool.false_and, Bool.not_true, Bool.not_false]
         try simp only [c13b0, Bool.true_and, Bool.false_and, Bool.not_true, Bool.not_false]
         try simp only [c14b0, Bool.true_and, Bool.false_and, Bool.not_true, Bool.not_false]
         with_reducible rfl
        rotate_left
        ·xsp_ i64_w i32_w
         rfl
        refine pure_ (i := 6) (N := some 20) (v := ?_) (a' := ?_) #[true, true, true, true, true, true, true] rfl rfl (by kernel_rfl) (fun _ _ _ h => h) (Or.inl ⟨by rfl, ?_⟩) ?_ ?_
        rotate_left
        ·intro w'
         go_simp
         with_reducible rfl
        rotate_left
        ·xsp_ i64_w i32_w
         rfl
        refine done_ (by kernel_rfl) ?_
        have hcz118_0 : w117.cell? ⟨gb196, 0, none⟩ = some (.int .i64 0) := (blk_cell BK196.out 0).trans rfl
        have hcz118_1 : w117.cell? ⟨gb196, 1, none⟩ = some (.slice none 0 0) := (blk_cell BK196.out 1).trans rfl
        have hcz118_2 : w117.cell? ⟨gb196, 2, none⟩ = some (.slice none 0 0) := (blk_cell BK196.out 2).trans rfl
        have hcz118_3 : w117.cell? ⟨gb196, 3, none⟩ = some (.slice none 0 0) := (blk_cell BK196.out 3).trans rfl
        have hfz118_0 := blk_frozen BK196.out 0
        have hfz118_1 := blk_frozen BK196.out 1
        have hfz118_2 := blk_frozen BK196.out 2
        have hfz118_3 := blk_frozen BK196.out 3
        try go_wp2
        refine bodyPost_ret (results_ct rfl _ _ gb196 26 #[.int .i64 0, .slice none 0 0, .slice none 0 0, .slice none 0 0] (0, 0) _ rfl (by xkb_; refine blk_put (cs := #[.int .i64 0, .slice none 0 0, .slice none 0 0, .slice none 0 0]) ?_ 3 _ rfl; xkb_; refine blk_put (cs := #[.int .i64 0, .slice none 0 0, .slice none 0 0, .slice none 0 0]) ?_ 2 _ rfl; xkb_; refine blk_put (cs := #[.int .i64 0, .slice none 0 0, .slice none 0 0, .slice none 0 0]) ?_ 1 _ rfl; xkb_; refine blk_put (cs := #[.int .i64 0, .slice none 0 0, .slice none 0 0, .slice none 0 0]) ?_ 0 _ rfl; xkb_; exact BK196.out) Try.underlying26 rfl (by kernel_rfl)) rfl ?_
        exact ⟨_, _, _, by first | rfl | (simp [errW_none, errW_some] <;> rfl) | (simp [*, errW_none, errW_some] <;> rfl), by xni_, by first | exact Kd.S_nil _ _ _ _ _ | exact Kd.N_nil _ _ _ _ _ | exact Kd.V_nil _ _ _ _ _ | exact Kd.Q_nil _ _ _ _ _ | exact Kd.R_nil _ _ _ _ _, by xni_, by repeat (first | (with_reducible first | exact HB.out | apply below_alloc | apply pw_below_drewN | apply below_drew1 | refine below_set ?_ GE196.out) | exact HB.out)⟩
      ·rw [if_neg c9] at H
       exact absurd H (by simp)
     ·rw [if_neg c8] at H
      exact absurd H (by simp)
    ·rw [if_neg c7] at H
     exact absurd H (by simp)
   ·rw [if_neg c6] at H
    exact absurd H (by simp)
  ·rw [if_neg c5] at H
   exact absurd H (by simp)
end Go.Proofs.Ytpcbhghgommijaa.X
end
section
namespace Go.Proofs.Ytpcbhghgommijaa.X
open Go.RowKit Go.Proofs.YtpcbhghgommijaaW.PrintWords Go.Proofs.YtpcbhghgommijaaW.PrintLast Go.Proofs.YtpcbhghgommijaaW.PrintMore
attribute [local go_sem] max2_int min2_int max_two min_two max_three min_three max_four min_four
set_option linter.unusedVariables false
set_option linter.unusedSimpArgs false
open Go.Proofs.Ytpcbhghgommijaa.XMac
theorem eqA52 (d : Nat) (w : World) (x0 y0 : Int) (x1 y1 : Int) :
    (Op.equalIn (d + 2) 52 (.agg #[.int .i64 x0, .int .i64 x1]) (.agg #[.int .i64 y0, .int .i64 y1])).run Try.prog w = .ok (x0 == y0 && (x1 == y1)) w := by
  refine eqA_of Try.underlying52 (by kernel_rfl) ?_
  refine eqf_cons (by rfl) (by go_simp; rfl) (by go_simp; rfl) (by go_simp) ?_
  exact eqf_last (by rfl) (by go_simp; rfl) (by go_simp; rfl) (by go_simp)
end Go.Proofs.Ytpcbhghgommijaa.X
end
