/- Functions of the program as Lean functions, and that the program comes to their answers (written by this session's own program, wip/x/xprint.py; Lean checks it). -/
import Derived.Test.YtpcbhghgommijaaXx0
import Derived.Test.YtpcbhghgommijaaXx2
import Derived.Test.YtpcbhghgommijaaXx3
namespace Go.Proofs.Ytpcbhghgommijaa.X
open Go.RowKit Go.Proofs.YtpcbhghgommijaaW.PrintWords Go.Proofs.YtpcbhghgommijaaW.PrintLast Go.Proofs.YtpcbhghgommijaaW.PrintMore
attribute [local go_sem] max2_int min2_int max_two min_two max_three min_three max_four min_four   -- for this text's walks alone
set_option linter.unusedVariables false
set_option linter.unusedSimpArgs false

open Go.Proofs.Ytpcbhghgommijaa.XMac
/-! ### table_Length: function 19 -/
def table_Length.f (a0 : Int) (a1 : Int) (a2 : Int) : Option (Int) := (table_between.f a0 0 255).bind fun t169 => (if t169 = true then ((table_between.f a1 0 255).bind fun t170 => (if t170 = true then ((table_between.f a2 0 255).bind fun t171 => (if t171 = true then (some (wrap64 ((wrap64 ((wrap64 ((wrap64 (7 + (wrap64 (4 * a2)))) + (wrap64 (a0 * a1)))) + (wrap64 (Int.tdiv (wrap64 (a1 + 7)) 8)))) + 4))) else (some 0))) else (some 0))) else (some 0))
set_option maxHeartbeats 8000000 in
set_option maxRecDepth 100000 in
theorem table_Length.calls (a0 : Int) (a1 : Int) (a2 : Int) (r : Int) (w : World) (h : table_Length.f a0 a1 a2 = some r) :
  Calls Try.prog 19 #[.int .i64 a0, .int .i64 a1, .int .i64 a2] w fun e w' => e = .returned (.int .i64 r) ∧ Drawn0 w w' := by
 have H : ((table_between.f a0 0 255).bind fun t169 => (if t169 = true then ((table_between.f a1 0 255).bind fun t170 => (if t170 = true then ((table_between.f a2 0 255).bind fun t171 => (if t171 = true then (some (wrap64 ((wrap64 ((wrap64 ((wrap64 (7 + (wrap64 (4 * a2)))) + (wrap64 (a0 * a1)))) + (wrap64 (Int.tdiv (wrap64 (a1 + 7)) 8)))) + 4))) else (some 0))) else (some 0))) else (some 0))) = some r := h
 clear h
 replace H := Option.bind_eq_some_iff.mp H
 obtain ⟨t169, A40, H⟩ := H
 replace H : (if t169 = true then ((table_between.f a1 0 255).bind fun t170 => (if t170 = true then ((table_between.f a2 0 255).bind fun t171 => (if t171 = true then (some (wrap64 ((wrap64 ((wrap64 ((wrap64 (7 + (wrap64 (4 * a2)))) + (wrap64 (a0 * a1)))) + (wrap64 (Int.tdiv (wrap64 (a1 + 7)) 8)))) + 4))) else (some 0))) else (some 0))) else (some 0)) = some r := H
 have A4 := Aside0.mk A40
 clear A40
 by_cases c5 : t169 = true
 ·subst c5
  have H1 : ((table_between.f a1 0 255).bind fun t170 => (if t170 = true then ((table_between.f a2 0 255).bind fun t171 => (if t171 = true then (some (wrap64 ((wrap64 ((wrap64 ((wrap64 (7 + (wrap64 (4 * a2)))) + (wrap64 (a0 * a1)))) + (wrap64 (Int.tdiv (wrap64 (a1 + 7)) 8)))) + 4))) else (some 0))) else (some 0))) = some r := by rw [if_pos rfl] at H; exact H
  clear H
  have H := H1
  clear H1
  replace H := Option.bind_eq_some_iff.mp H
  obtain ⟨t170, A60, H⟩ := H
  replace H : (if t170 = true then ((table_between.f a2 0 255).bind fun t171 => (if t171 = true then (some (wrap64 ((wrap64 ((wrap64 ((wrap64 (7 + (wrap64 (4 * a2)))) + (wrap64 (a0 * a1)))) + (wrap64 (Int.tdiv (wrap64 (a1 + 7)) 8)))) + 4))) else (some 0))) else (some 0)) = some r := H
  have A6 := Aside0.mk A60
  clear A60
  by_cases c7 : t170 = true
  ·subst c7
   have H1 : ((table_between.f a2 0 255).bind fun t171 => (if t171 = true then (some (wrap64 ((wrap64 ((wrap64 ((wrap64 (7 + (wrap64 (4 * a2)))) + (wrap64 (a0 * a1)))) + (wrap64 (Int.tdiv (wrap64 (a1 + 7)) 8)))) + 4))) else (some 0))) = some r := by rw [if_pos rfl] at H; exact H
   clear H
   have H := H1
   clear H1
   replace H := Option.bind_eq_some_iff.mp H
   obtain ⟨t171, A80, H⟩ := H
   replace H : (if t171 = true then (some (wrap64 ((wrap64 ((wrap64 ((wrap64 (7 + (wrap64 (4 * a2)))) + (wrap64 (a0 * a1)))) + (wrap64 (Int.tdiv (wrap64 (a1 + 7)) 8)))) + 4))) else (some 0)) = some r := H
   have A8 := Aside0.mk A80
   clear A80
   by_cases c9 : t171 = true
   ·subst c9
    have H1 : (some (wrap64 ((wrap64 ((wrap64 ((wrap64 (7 + (wrap64 (4 * a2)))) + (wrap64 (a0 * a1)))) + (wrap64 (Int.tdiv (wrap64 (a1 + 7)) 8)))) + 4))) = some r := by rw [if_pos rfl] at H; exact H
    clear H
    have H := H1
    clear H1
    obtain rfl := Option.some.inj H
    go_enter Try.func19, Try.ntmps19
    go_wp2_with (first | ((with_reducible refine gate_callee (f := 33) rfl ?_); refine goesL_ (some 8) rfl rfl Try.func33 (by kernel_rfl) rfl #[.int .i64 a0, .int .i64 0, .int .i64 255] rfl (by xlm_) ?_; (with_reducible refine (table_between.calls a0 0 255 true _ A4.out).mono ?_); rintro e w' ⟨rfl, ⟨nd, rfl⟩⟩; refine ⟨_, rfl, ?_⟩) | (go_at_call 33; (with_reducible refine (table_between.calls a1 0 255 true _ A6.out).mono ?_); rintro e w' ⟨rfl, ⟨nd, rfl⟩⟩) | (go_at_call 33; (with_reducible refine (table_between.calls a2 0 255 true _ A8.out).mono ?_); rintro e w' ⟨rfl, ⟨nd, rfl⟩⟩))
    go_ret
    exact ⟨by first | rfl | (simp; done) | (simp [*]; done), by repeat (first | exact Drawn0.refl _ | apply Drawn0.step)⟩
   ·replace c9 := Bool.eq_false_iff.mpr c9
    subst c9
    have H1 : (some 0) = some r := by rw [if_neg (show ¬ (false = true) by decide)] at H; exact H
    clear H
    have H := H1
    clear H1
    obtain rfl := Option.some.inj H
    go_enter Try.func19, Try.ntmps19
    go_wp2_with (first | ((with_reducible refine gate_callee (f := 33) rfl ?_); refine goesL_ (some 8) rfl rfl Try.func33 (by kernel_rfl) rfl #[.int .i64 a0, .int .i64 0, .int .i64 255] rfl (by xlm_) ?_; (with_reducible refine (table_between.calls a0 0 255 true _ A4.out).mono ?_); rintro e w' ⟨rfl, ⟨nd, rfl⟩⟩; refine ⟨_, rfl, ?_⟩) | (go_at_call 33; (with_reducible refine (table_between.calls a1 0 255 true _ A6.out).mono ?_); rintro e w' ⟨rfl, ⟨nd, rfl⟩⟩) | (go_at_call 33; (with_reducible refine (table_between.calls a2 0 255 false _ A8.out).mono ?_); rintro e w' ⟨rfl, ⟨nd, rfl⟩⟩))
    go_ret
    exact ⟨by first | rfl | (simp; done) | (simp [*]; done), by repeat (first | exact Drawn0.refl _ | apply Drawn0.step)⟩
  ·replace c7 := Bool.eq_false_iff.mpr c7
   subst c7
   have H1 : (some 0) = some r := by rw [if_neg (show ¬ (false = true) by decide)] at H; exact H
   clear H
   have H := H1
   clear H1
   obtain rfl := Option.some.inj H
   go_enter Try.func19, Try.ntmps19
   go_wp2_with (first | ((with_reducible refine gate_callee (f := 33) rfl ?_); refine goesL_ (some 8) rfl rfl Try.func33 (by kernel_rfl) rfl #[.int .i64 a0, .int .i64 0, .int .i64 255] rfl (by xlm_) ?_; (with_reducible refine (table_between.calls a0 0 255 true _ A4.out).mono ?_); rintro e w' ⟨rfl, ⟨nd, rfl⟩⟩; refine ⟨_, rfl, ?_⟩) | (go_at_call 33; (with_reducible refine (table_between.calls a1 0 255 false _ A6.out).mono ?_); rintro e w' ⟨rfl, ⟨nd, rfl⟩⟩))
   go_ret
   exact ⟨by first | rfl | (simp; done) | (simp [*]; done), by repeat (first | exact Drawn0.refl _ | apply Drawn0.step)⟩
 ·replace c5 := Bool.eq_false_iff.mpr c5
  subst c5
  have H1 : (some 0) = some r := by rw [if_neg (show ¬ (false = true) by decide)] at H; exact H
  clear H
  have H := H1
  clear H1
  obtain rfl := Option.some.inj H
  go_enter Try.func19, Try.ntmps19
  go_wp2_with (first | ((with_reducible refine gate_callee (f := 33) rfl ?_); refine goesL_ (some 8) rfl rfl Try.func33 (by kernel_rfl) rfl #[.int .i64 a0, .int .i64 0, .int .i64 255] rfl (by xlm_) ?_; (with_reducible refine (table_between.calls a0 0 255 false _ A4.out).mono ?_); rintro e w' ⟨rfl, ⟨nd, rfl⟩⟩; refine ⟨_, rfl, ?_⟩))
  go_ret
  exact ⟨by first | rfl | (simp; done) | (simp [*]; done), by repeat (first | exact Drawn0.refl _ | apply Drawn0.step)⟩

/-! ### pack_Get: function 34 -/
mutual
def pack_Get.j0 : Nat → List Int → Int → Int → Bool → Option (Int × Bool)
 | 0, _, _, _, _ => none
 | k + 1, x0, x1, x2, x28 => if x28 = true then (some (0, false)) else (if 0 ≤ x1 then (if x1 ≤ (wrap64 (x1 + x2)) then (if (wrap64 (x1 + x2)) ≤ (x0.length : Int) then ((some ((x0.take ((wrap64 (x1 + x2)) : Int).toNat).drop (x1 : Int).toNat : List Int)).bind fun y172 => (pack_Get.l0 k 0 y172 (y172.length : Int) 0)) else (none)) else (none)) else (none))
def pack_Get.l0 : Nat → Int → List Int → Int → Int → Option (Int × Bool)
 | 0, _, _, _, _ => none
 | k + 1, x8, x34, x35, x36 => if x36 < x35 then (if 0 ≤ x36 then (if x36 < (x34.length : Int) then (pack_Get.l0 k (Go.bits .or .i64 (wrap64 (x8 * 256)) (wrap64 (rd x34 x36))) x34 x35 (wrap64 (x36 + 1))) else (none)) else (none)) else (some (x8, true))
end
def pack_Get.f (k : Nat) (l0 : List Int) (a1 : Int) (a2 : Int) : Option (Int × Bool) := if a2 < 1 then (pack_Get.j0 k l0 a1 a2 true) else (if a2 > 4 then (pack_Get.j0 k l0 a1 a2 true) else (if a1 < 0 then (pack_Get.j0 k l0 a1 a2 true) else (pack_Get.j0 k l0 a1 a2 (decide (a1 > (wrap64 ((l0.length : Int) - a2)))))))
theorem pack_Get.mono_l : ∀ k, (∀ y0 y1 y2 y3, LeO (pack_Get.j0 k y0 y1 y2 y3) (pack_Get.j0 (k + 1) y0 y1 y2 y3)) ∧ (∀ y0 y1 y2 y3, LeO (pack_Get.l0 k y0 y1 y2 y3) (pack_Get.l0 (k + 1) y0 y1 y2 y3))
 | 0 => ⟨fun _ _ _ _ r h => by simp [pack_Get.j0] at h, fun _ _ _ _ r h => by simp [pack_Get.l0] at h⟩
 | k + 1 => by
  obtain ⟨ih0, ih1⟩ := pack_Get.mono_l k
  refine ⟨?_, ?_⟩
  ·intro y0 y1 y2 y3
   unfold pack_Get.j0
   repeat' first
   | (with_reducible exact ih0 _ _ _ _)
   | (with_reducible exact ih1 _ _ _ _)
   | (with_reducible exact LeO.refl _)
   | (with_reducible exact LeO.none _)
   | (with_reducible refine LeO.ite ?_ ?_)
   | (with_reducible refine LeO.bind ?_ (fun _ => ?_))
   | exact ih0 _ _ _ _
   | exact ih1 _ _ _ _
   | exact LeO.none _
   | refine LeO.ite ?_ ?_
   | refine LeO.bind ?_ (fun _ => ?_)
  ·intro y0 y1 y2 y3
   unfold pack_Get.l0
   repeat' first
   | (with_reducible exact ih0 _ _ _ _)
   | (with_reducible exact ih1 _ _ _ _)
   | (with_reducible exact LeO.refl _)
   | (with_reducible exact LeO.none _)
   | (with_reducible refine LeO.ite ?_ ?_)
   | (with_reducible refine LeO.bind ?_ (fun _ => ?_))
   | exact ih0 _ _ _ _
   | exact ih1 _ _ _ _
   | exact LeO.none _
   | refine LeO.ite ?_ ?_
   | refine LeO.bind ?_ (fun _ => ?_)
theorem pack_Get.mono : ∀ a0 a1 a2 k, LeO (pack_Get.f k a0 a1 a2) (pack_Get.f (k + 1) a0 a1 a2) := by
 intro a0 a1 a2 k
 obtain ⟨ih0, ih1⟩ := pack_Get.mono_l k
 unfold pack_Get.f
 repeat' first
   | (with_reducible exact ih0 _ _ _ _)
   | (with_reducible exact ih1 _ _ _ _)
   | (with_reducible exact LeO.refl _)
   | (with_reducible exact LeO.none _)
   | (with_reducible refine LeO.ite ?_ ?_)
   | (with_reducible refine LeO.bind ?_ (fun _ => ?_))
   | exact ih0 _ _ _ _
   | exact ih1 _ _ _ _
   | exact LeO.none _
   | refine LeO.ite ?_ ?_
   | refine LeO.bind ?_ (fun _ => ?_)
set_option maxHeartbeats 8000000 in
set_option maxRecDepth 100000 in
theorem pack_Get.calls (k : Nat) (A0 : Option Addr) (c0 : Nat) (l0 : List Int) (a1 : Int) (a2 : Int) (r1 : Int) (r2 : Bool) (w : World) (hr0 : Kd.C (Kd.int .u8) w A0 l0.length l0) (hc0 : l0.length ≤ c0) (h : pack_Get.f k l0 a1 a2 = some (r1, r2)) :
  Calls Try.prog 34 #[.slice A0 l0.length c0, .int .i64 a1, .int .i64 a2] w fun e w' => e = .returned (.tuple #[.int .i64 r1, .bool r2]) ∧ Drawn0 w w' := by
 have HR0 := Aside0.mk hr0
 have HC0 := Aside0.mk hc0
 clear hr0 hc0
 have H : (if a2 < 1 then (pack_Get.j0 k l0 a1 a2 true) else (if a2 > 4 then (pack_Get.j0 k l0 a1 a2 true) else (if a1 < 0 then (pack_Get.j0 k l0 a1 a2 true) else (pack_Get.j0 k l0 a1 a2 (decide (a1 > (wrap64 ((l0.length : Int) - a2)))))))) = some (r1, r2) := h
 clear h
 have HC4 := Aside0.mk H
 clear H
 go_enter Try.func34, Try.ntmps34
 go_upto_region 1 with (fail)
 go_cut [28] (fun v28 wc => ∃ (kq : Nat) (x28_3 : Bool), v28 = .bool x28_3 ∧ Aside0 (pack_Get.j0 kq l0 a1 a2 x28_3 = some (r1, r2)) ∧ Aside0 (kq ≤ k) ∧ Drawn0 w wc)
 case first =>
  have H := HC4.out
  clear HC4
  by_cases c5 : a2 < 1
  ·rw [if_pos c5] at H
   have c5b0 : decide (a2 < 1) = true := decide_eq_true c5
   clear c5
   (first | rw [c5b0] | (simp only [i64_w, i32_w]; rw [c5b0]) | skip)
   have H' := Aside0.mk H
   clear H
   go_wp2
   go_meet
   case rel => exact ⟨_, (true), (by xrs_), H', ⟨by first | omega | exact Nat.le_refl _⟩, by repeat (first | exact Drawn0.refl _ | apply Drawn0.step)⟩
  ·rw [if_neg c5] at H
   have c5b0 : decide (a2 < 1) = false := decide_eq_false c5
   clear c5
   (first | rw [c5b0] | (simp only [i64_w, i32_w]; rw [c5b0]) | skip)
   by_cases c6 : a2 > 4
   ·rw [if_pos c6] at H
    have c6b0 : decide (4 < a2) = true := decide_eq_true c6
    clear c6
    have H' := Aside0.mk H
    clear H
    go_wp2
    go_meet
    case rel => exact ⟨_, (true), (by xrs_), H', ⟨by first | omega | exact Nat.le_refl _⟩, by repeat (first | exact Drawn0.refl _ | apply Drawn0.step)⟩
   ·rw [if_neg c6] at H
    have c6b0 : decide (4 < a2) = false := decide_eq_false c6
    clear c6
    by_cases c7 : a1 < 0
    ·rw [if_pos c7] at H
     have c7b0 : decide (a1 < 0) = true := decide_eq_true c7
     clear c7
     have H' := Aside0.mk H
     clear H
     go_wp2
     go_meet
     case rel => exact ⟨_, (true), (by xrs_), H', ⟨by first | omega | exact Nat.le_refl _⟩, by repeat (first | exact Drawn0.refl _ | apply Drawn0.step)⟩
    ·rw [if_neg c7] at H
     have c7b0 : decide (a1 < 0) = false := decide_eq_false c7
     clear c7
     have H' := Aside0.mk H
     clear H
     go_wp2
     go_meet
     case rel => exact ⟨_, (decide (a1 > (wrap64 ((l0.length : Int) - a2)))), (by xrs_), H', ⟨by first | omega | exact Nat.le_refl _⟩, by repeat (first | exact Drawn0.refl _ | apply Drawn0.step)⟩
 case rest =>
  clear HC4
  xcl_ p2 c3 c5 c5b0 c6 c6b0 p6 c7 c7b0
  obtain ⟨kq, x28_3, rfl, HA, HJ3, ⟨mc3, rfl⟩⟩ := hcut
  cases kq with
  | zero => exact absurd HA.out (by simp [pack_Get.j0])
  | succ kj3 =>
   have H := HA.out
   clear HA
   simp only [pack_Get.j0] at H
   by_cases c8 : x28_3 = true
   ·subst c8
    have H1 : (some (0, false)) = some (r1, r2) := by rw [if_pos rfl] at H; exact H
    clear H
    have H := H1
    clear H1
    simp only [Option.some.injEq, Prod.mk.injEq] at H
    obtain ⟨rfl, rfl⟩ := H
    go_wp2
    go_ret2
    exact ⟨by first | rfl | (simp; done) | (simp [*]; done), by repeat (first | exact Drawn0.refl _ | apply Drawn0.step)⟩
   ·replace c8 := Bool.eq_false_iff.mpr c8
    subst c8
    have H1 : (if 0 ≤ a1 then (if a1 ≤ (wrap64 (a1 + a2)) then (if (wrap64 (a1 + a2)) ≤ (l0.length : Int) then ((some ((l0.take ((wrap64 (a1 + a2)) : Int).toNat).drop (a1 : Int).toNat : List Int)).bind fun y172 => (pack_Get.l0 kj3 0 y172 (y172.length : Int) 0)) else (none)) else (none)) else (none)) = some (r1, r2) := by rw [if_neg (show ¬ (false = true) by decide)] at H; exact H
    clear H
    have H := H1
    clear H1
    by_cases c9 : 0 ≤ a1
    ·rw [if_pos c9] at H
     have c9b0 := eq_true c9
     have c9b1 : decide (0 ≤ a1) = true := decide_eq_true c9
     clear c9
     by_cases c10 : a1 ≤ (wrap64 (a1 + a2))
     ·rw [if_pos c10] at H
      have c10b0 := eq_true c10
      have c10b1 : decide (a1 ≤ (wrap64 (a1 + a2))) = true := decide_eq_true c10
      by_cases c11 : (wrap64 (a1 + a2)) ≤ (l0.length : Int)
      ·rw [if_pos c11] at H
       have c11b0 := eq_true c11
       have c11b1 : decide ((wrap64 (a1 + a2)) ≤ (l0.length : Int)) = true := decide_eq_true c11
       obtain ⟨y172, hy172⟩ : ∃ y_ : List Int, y_ = ((l0.take ((wrap64 (a1 + a2)) : Int).toNat).drop (a1 : Int).toNat) := ⟨_, rfl⟩
       replace H : (pack_Get.l0 kj3 0 y172 (y172.length : Int) 0) = some (r1, r2) := by first | (rw [hy172]; with_reducible exact H) | (have H2_ := (Option.bind_some _ _).symm.trans H; rw [hy172]; with_reducible exact H2_) | (have H2_ := (Option.bind_some _ _).symm.trans H; with_reducible exact H2_) | with_reducible exact H | (rw [hy172]; exact H) | exact H
       have Ny172 := Aside0.mk hy172
       clear hy172
       have H' := Aside0.mk H
       clear H
       have q12 : ((wrap64 (a1 + a2)) : Int) ≤ ((l0.length : Int) : Int) := of_decide_eq_true (by xas_)
       obtain ⟨i012, hi012, _, hsz12, _⟩ := info_parts info5
       have hroom12 : l0.length ≤ c0 := HC0.out
       have hC12 : Kd.C (Kd.int .u8) _ A0 l0.length l0 := HR0.out
       have ql12 : (a1 : Int) ≤ ((wrap64 (a1 + a2)) : Int) := of_decide_eq_true (by xas_)
       have q012 : (0 : Int) ≤ (a1 : Int) := of_decide_eq_true (by xas_)
       have hcut12 := cut_mid (P := Try.prog) 27 5 .i64 .i64 Try.underlying27 hi012 1 hsz12 A0 l0.length c0 a1 (wrap64 (a1 + a2)) q012 ql12 q12 hroom12
       have hr12 := Kd.C_mid (lo := (a1 : Int).toNat) (hi := ((wrap64 (a1 + a2)) : Int).toNat) (c := c0) hC12 (by omega) (by omega) hroom12
       obtain ⟨A12, hA12⟩ : ∃ A1, A1 = (if c0 = (a1 : Int).toNat then A0 else (A0 : Option Addr).map (·.add ((a1 : Int).toNat * 1))) := ⟨_, rfl⟩
       obtain ⟨c12, hc12⟩ : ∃ c1, c1 = c0 - (a1 : Int).toNat := ⟨_, rfl⟩
       have hy12 : y172.length = ((wrap64 (a1 + a2)) : Int).toNat - (a1 : Int).toNat := (by rw [Ny172.out, List.length_drop, List.length_take] <;> omega)
       rw [show ((l0).take ((wrap64 (a1 + a2)) : Int).toNat).drop (a1 : Int).toNat = y172 from Ny172.out.symm] at hr12
       replace hr12 : Kd.C (Kd.int .u8) _ A12 y172.length y172 := (by rw [hA12]; exact hr12)
       rw [← hy12, ← hA12, ← hc12] at hcut12
       have HR175 := Aside0.mk hr12
       have HC175 := Aside0.mk (show y172.length ≤ c12 from by rw [hy12, hc12]; exact Nat.sub_le_sub_right (Nat.le_trans (by omega) hroom12) _)
       clear hr12 hC12 hroom12 hi012 hsz12 hc12
       have KY12 := Aside0.mk hy12
       have KA12 := Aside0.mk hA12
       clear hy12 hA12
       replace q12 := eq_true q12
       go_wp2
       go_loopg [8, 36] kj3 (fun kq v8 v36 w' => ∃ (x8_2 : Int) (x36_2 : Int), v8 = .int .i64 x8_2 ∧ v36 = .int .i64 x36_2 ∧ Aside0 (pack_Get.l0 kq x8_2 y172 (y172.length : Int) x36_2 = some (r1, r2)) ∧ Aside0 (kq ≤ kj3) ∧ Drawn0 w w')
       case atStart => exact ⟨(0), (0), (by xrs_), (by xrs_), H', ⟨Nat.le_refl _⟩, by repeat (first | exact Drawn0.refl _ | apply Drawn0.step)⟩
       case round =>
        clear H'
        xcl_ c1 q1 p2 c3 c5 c5b0 c6 c6b0 p6 c7 c7b0 c8 c9 c9b0 c9b1 c10 c10b0 c10b1 c11 c11b0 c11b1 c12 q12 p2 p6 q012 q12
        obtain ⟨x8_2, x36_2, rfl, rfl, HA, HK2, ⟨m2, rfl⟩⟩ := hrel
        cases gk with
        | zero => exact absurd HA.out (by simp [pack_Get.l0])
        | succ k2 =>
         have H := HA.out
         clear HA
         simp only [pack_Get.l0] at H
         by_cases c13 : x36_2 < (y172.length : Int)
         ·rw [if_pos c13] at H
          have c13b0 : decide (x36_2 < (y172.length : Int)) = true := decide_eq_true c13
          clear c13
          by_cases c14 : 0 ≤ x36_2
          ·rw [if_pos c14] at H
           have c14b0 : decide (0 ≤ x36_2) = true := decide_eq_true c14
           clear c14
           by_cases c15 : x36_2 < (y172.length : Int)
           ·rw [if_pos c15] at H
            have c15b0 : decide (x36_2 < (y172.length : Int)) = true := decide_eq_true c15
            clear c15
            have H' := Aside0.mk H
            clear H
            have p176 : 0 ≤ (x36_2 : Int) := of_decide_eq_true (by xas_)
            have q176 : x36_2 < (y172.length : Int) := of_decide_eq_true (by xas_)
            obtain ⟨ad176, e176, hx176_0⟩ := Kd.at_int HR175.out x36_2 p176 q176
            cases e176
            replace p176 := eq_true p176
            replace q176 := eq_true q176
            go_wp2
            go_roundg k2
            case measure => have := HJ3.out; have := HK2.out; omega
            case rel => exact ⟨(Go.bits .or .i64 (wrap64 (x8_2 * 256)) (wrap64 (rd y172 x36_2))), (wrap64 (x36_2 + 1)), (by xrs_), (by xrs_), H', ⟨by have := HJ3.out; have := HK2.out; omega⟩, by repeat (first | exact Drawn0.refl _ | apply Drawn0.step)⟩
           ·rw [if_neg c15] at H
            exact absurd H (by simp)
          ·rw [if_neg c14] at H
           exact absurd H (by simp)
         ·rw [if_neg c13] at H
          have c13b0 : decide (x36_2 < (y172.length : Int)) = false := decide_eq_false c13
          clear c13
          simp only [Option.some.injEq, Prod.mk.injEq] at H
          obtain ⟨rfl, rfl⟩ := H
          go_wp2
          go_ret2
          exact ⟨by first | rfl | (simp; done) | (simp [*]; done), by repeat (first | exact Drawn0.refl _ | apply Drawn0.step)⟩
      ·rw [if_neg c11] at H
       exact absurd H (by simp)
     ·rw [if_neg c10] at H
      exact absurd H (by simp)
    ·rw [if_neg c9] at H
     exact absurd H (by simp)

/-! ### table_sealed: function 32 -/
def table_sealed.f (k : Nat) (l0 : List Int) : Option (Bool) := (pack_Get.f k l0 (wrap64 ((l0.length : Int) - 4)) 4).bind fun bt177 => (if 0 ≤ (wrap64 ((l0.length : Int) - 4)) then (if (wrap64 ((l0.length : Int) - 4)) ≤ (l0.length : Int) then ((pack_Sum.f k (l0.take ((wrap64 ((l0.length : Int) - 4)) : Int).toNat)).bind fun t183 => (some (((bt177.1) % 4294967296) == t183))) else (none)) else (none))
theorem table_sealed.mono : ∀ a0 k, LeO (table_sealed.f k a0) (table_sealed.f (k + 1) a0) := by
 intro a0 k
 unfold table_sealed.f
 repeat' first
   | (with_reducible exact pack_Get.mono _ _ _ _)
   | (with_reducible exact pack_Sum.mono _ _)
   | (with_reducible exact LeO.refl _)
   | (with_reducible exact LeO.none _)
   | (with_reducible refine LeO.ite ?_ ?_)
   | (with_reducible refine LeO.bind ?_ (fun _ => ?_))
   | exact pack_Get.mono _ _ _ _
   | exact pack_Sum.mono _ _
   | exact LeO.none _
   | refine LeO.ite ?_ ?_
   | refine LeO.bind ?_ (fun _ => ?_)
set_option maxHeartbeats 8000000 in
set_option maxRecDepth 100000 in
theorem table_sealed.calls (k : Nat) (A0 : Option Addr) (c0 : Nat) (l0 : List Int) (r : Bool) (w : World) (hr0 : Kd.C (Kd.int .u8) w A0 l0.length l0) (hc0 : l0.length ≤ c0) (h : table_sealed.f k l0 = some r) :
  Calls Try.prog 32 #[.slice A0 l0.length c0] w fun e w' => e = .returned (.bool r) ∧ Drawn0 w w' := by
 have HR0 := Aside0.mk hr0
 have HC0 := Aside0.mk hc0
 clear hr0 hc0
 have H : ((pack_Get.f k l0 (wrap64 ((l0.length : Int) - 4)) 4).bind fun bt177 => (if 0 ≤ (wrap64 ((l0.length : Int) - 4)) then (if (wrap64 ((l0.length : Int) - 4)) ≤ (l0.length : Int) then ((pack_Sum.f k (l0.take ((wrap64 ((l0.length : Int) - 4)) : Int).toNat)).bind fun t183 => (some (((bt177.1) % 4294967296) == t183))) else (none)) else (none))) = some r := h
 clear h
 replace H := Option.bind_eq_some_iff.mp H
 obtain ⟨⟨t177, t178⟩, A20, H⟩ := H
 replace H : (if 0 ≤ (wrap64 ((l0.length : Int) - 4)) then (if (wrap64 ((l0.length : Int) - 4)) ≤ (l0.length : Int) then ((pack_Sum.f k (l0.take ((wrap64 ((l0.length : Int) - 4)) : Int).toNat)).bind fun t183 => (some (((t177) % 4294967296) == t183))) else (none)) else (none)) = some r := H
 have A2 := Aside0.mk A20
 clear A20
 obtain ⟨ji3, hji3⟩ : ∃ j_ : Int, (wrap64 ((l0.length : Int) - 4)) = j_ := ⟨_, rfl⟩
 replace H : (if 0 ≤ (ji3) then (if (ji3) ≤ (l0.length : Int) then ((pack_Sum.f k (l0.take ((ji3) : Int).toNat)).bind fun t183 => (some (((t177) % 4294967296) == t183))) else (none)) else (none)) = some r := by first | (rw [hji3] at H; exact H) | (simp only [hji3] at H ⊢; exact H)
 (try rw [hji3] at A2)
 have hji3w : (IntKind.i64.wrap ((l0.length : Int) - 4)) = ji3 := (i64_w _).trans hji3
 by_cases c4 : 0 ≤ (ji3)
 ·rw [if_pos c4] at H
  have c4b0 := eq_true c4
  have c4b1 : decide (0 ≤ (ji3)) = true := decide_eq_true c4
  clear c4
  by_cases c5 : (ji3) ≤ (l0.length : Int)
  ·rw [if_pos c5] at H
   have c5b0 := eq_true c5
   have c5b1 : decide ((ji3) ≤ (l0.length : Int)) = true := decide_eq_true c5
   clear c5
   obtain ⟨y179, hy179⟩ : ∃ y_ : List Int, y_ = (l0.take ((ji3) : Int).toNat) := ⟨_, rfl⟩
   replace H : ((pack_Sum.f k y179).bind fun t183 => (some (((t177) % 4294967296) == t183))) = some r := by first | (rw [hy179]; with_reducible exact H) | (have H2_ := (Option.bind_some _ _).symm.trans H; rw [hy179]; with_reducible exact H2_) | (have H2_ := (Option.bind_some _ _).symm.trans H; with_reducible exact H2_) | with_reducible exact H | (rw [hy179]; exact H) | exact H
   have Ny179 := Aside0.mk hy179
   clear hy179
   replace H := Option.bind_eq_some_iff.mp H
   obtain ⟨t183, A60, H⟩ := H
   replace H : (some (((t177) % 4294967296) == t183)) = some r := H
   have A6 := Aside0.mk A60
   clear A60
   obtain rfl := Option.some.inj H
   go_enter Try.func32, Try.ntmps32
   go_wp2_with (first | ((with_reducible refine gate_callee (f := 34) rfl ?_); refine goesL_ (some 12) rfl rfl Try.func34 (by kernel_rfl) rfl #[.slice A0 l0.length c0, .int .i64 ji3, .int .i64 4] rfl (by (try simp only [List.map_toArray, List.map_cons, List.map_nil]); first | done | (simp only [hji3]; rfl) | rfl | (simp only [List.length_drop, List.length_take]; rfl)) ?_; (with_reducible refine (pack_Get.calls k _ _ l0 ji3 4 t177 t178 _ ?side1 ?side2 A2.out).mono ?_); (case side1 => repeat (first | exact HR0.out | xkC_)); (case side2 => exact HC0.out); rintro e w' ⟨rfl, ⟨nd, rfl⟩⟩; refine ⟨_, rfl, ?_⟩; have q7 : ((ji3) : Int) ≤ ((l0.length : Int) : Int) := of_decide_eq_true (by xas_); obtain ⟨i07, hi07, _, hsz7, _⟩ := info_parts info5; have hroom7 : l0.length ≤ c0 := HC0.out; have hC7 : Kd.C (Kd.int .u8) _ A0 l0.length l0 := HR0.out; have hcut7 := cut_to (P := Try.prog) 27 5 .i64 Try.underlying27 hi07 A0 l0.length c0 (ji3) (of_decide_eq_true (by xas_)) q7 hroom7; have hr7 := Kd.C_take (m := ((ji3) : Int).toNat) hC7 (by omega); have hy7 : y179.length = ((ji3) : Int).toNat := (by rw [Ny179.out, List.length_take]; omega); rw [← Ny179.out] at hr7; rw [← hy7] at hcut7; have HR182 := Aside0.mk hr7; have HC182 := Aside0.mk (show y179.length ≤ c0 from by omega); clear hr7 hC7 hroom7 hi07 hsz7; have KY7 := Aside0.mk hy7; clear hy7; replace q7 := eq_true q7) | ((with_reducible refine gate_callee (f := 29) rfl ?_); refine goesL_ (some 20) rfl rfl Try.func29 (by kernel_rfl) rfl #[.slice A0 y179.length c0] rfl (by xlm_) ?_; (with_reducible refine (pack_Sum.calls k _ _ y179 t183 _ ?side1 ?side2 A6.out).mono ?_); (case side1 => repeat (first | exact HR182.out | xkC_)); (case side2 => exact HC182.out); rintro e w' ⟨rfl, ⟨nd, rfl⟩⟩; refine ⟨_, rfl, ?_⟩))
   go_ret
   exact ⟨by first | rfl | (simp; done) | (simp only [← hji3] <;> (first | rfl | simp)) | (simp [*]; done), by repeat (first | exact Drawn0.refl _ | apply Drawn0.step)⟩
  ·rw [if_neg c5] at H
   exact absurd H (by simp)
 ·rw [if_neg c4] at H
  exact absurd H (by simp)

/-! ### slices_Equal_byte_byte: function 51 -/
def slices_Equal_byte_byte.l0 : Nat → List Int → List Int → Int → Int → Option (Bool)
 | 0, _, _, _, _ => none
 | k + 1, x0, x1, x12, x13 => if x13 < x12 then (if 0 ≤ x13 then (if x13 < (x0.length : Int) then (if x13 < (x1.length : Int) then (if (rd x0 x13) = (rd x1 x13) then (slices_Equal_byte_byte.l0 k x0 x1 x12 (wrap64 (x13 + 1))) else (some false)) else (none)) else (none)) else (none)) else (some true)
def slices_Equal_byte_byte.f (k : Nat) (l0 : List Int) (l1 : List Int) : Option (Bool) := if (l0.length : Int) = (l1.length : Int) then (slices_Equal_byte_byte.l0 k l0 l1 (l0.length : Int) 0) else (some false)
theorem slices_Equal_byte_byte.mono_l : ∀ k, (∀ y0 y1 y2 y3, LeO (slices_Equal_byte_byte.l0 k y0 y1 y2 y3) (slices_Equal_byte_byte.l0 (k + 1) y0 y1 y2 y3))
 | 0 => fun _ _ _ _ r h => by simp [slices_Equal_byte_byte.l0] at h
 | k + 1 => by
  have ih0 := slices_Equal_byte_byte.mono_l k
  ·intro y0 y1 y2 y3
   unfold slices_Equal_byte_byte.l0
   repeat' first
   | (with_reducible exact ih0 _ _ _ _)
   | (with_reducible exact LeO.refl _)
   | (with_reducible exact LeO.none _)
   | (with_reducible refine LeO.ite ?_ ?_)
   | (with_reducible refine LeO.bind ?_ (fun _ => ?_))
   | exact ih0 _ _ _ _
   | exact LeO.none _
   | refine LeO.ite ?_ ?_
   | refine LeO.bind ?_ (fun _ => ?_)
theorem slices_Equal_byte_byte.mono : ∀ a0 a1 k, LeO (slices_Equal_byte_byte.f k a0 a1) (slices_Equal_byte_byte.f (k + 1) a0 a1) := by
 intro a0 a1 k
 have ih0 := slices_Equal_byte_byte.mono_l k
 unfold slices_Equal_byte_byte.f
 repeat' first
   | (with_reducible exact ih0 _ _ _ _)
   | (with_reducible exact LeO.refl _)
   | (with_reducible exact LeO.none _)
   | (with_reducible refine LeO.ite ?_ ?_)
   | (with_reducible refine LeO.bind ?_ (fun _ => ?_))
   | exact ih0 _ _ _ _
   | exact LeO.none _
   | refine LeO.ite ?_ ?_
   | refine LeO.bind ?_ (fun _ => ?_)
set_option maxHeartbeats 8000000 in
set_option maxRecDepth 100000 in
theorem slices_Equal_byte_byte.calls (k : Nat) (A0 : Option Addr) (c0 : Nat) (l0 : List Int) (A1 : Option Addr) (c1 : Nat) (l1 : List Int) (r : Bool) (w : World) (hr0 : Kd.C (Kd.int .u8) w A0 l0.length l0) (hc0 : l0.length ≤ c0) (hr1 : Kd.C (Kd.int .u8) w A1 l1.length l1) (hc1 : l1.length ≤ c1) (h : slices_Equal_byte_byte.f k l0 l1 = some r) :
  Calls Try.prog 51 #[.slice A0 l0.length c0, .slice A1 l1.length c1] w fun e w' => e = .returned (.bool r) ∧ Drawn0 w w' := by
 have HR0 := Aside0.mk hr0
 have HC0 := Aside0.mk hc0
 clear hr0 hc0
 have HR1 := Aside0.mk hr1
 have HC1 := Aside0.mk hc1
 clear hr1 hc1
 have H : (if (l0.length : Int) = (l1.length : Int) then (slices_Equal_byte_byte.l0 k l0 l1 (l0.length : Int) 0) else (some false)) = some r := h
 clear h
 by_cases c3 : (l0.length : Int) = (l1.length : Int)
 ·rw [if_pos c3] at H
  have c3b0 : ((l0.length : Int) == (l1.length : Int)) = true := beq_iff_eq.mpr c3
  have c3b1 : ((l0.length : Int) != (l1.length : Int)) = false := bne_eq_false_iff_eq.mpr c3
  have c3b2 : (l0.length == l1.length) = true := by first | simpa using c3 | (simp at c3 ⊢; omega)
  clear c3
  have H' := Aside0.mk H
  clear H
  go_enter Try.func51, Try.ntmps51
  go_wp2
  repeat (go_quiet (fail); try go_wp2)
  go_loopg [13] k (fun kq v13 w' => ∃ (x13_1 : Int), v13 = .int .i64 x13_1 ∧ Aside0 (slices_Equal_byte_byte.l0 kq l0 l1 (l0.length : Int) x13_1 = some r) ∧ Aside0 (kq ≤ k) ∧ Drawn0 w w')
  case atStart => exact ⟨(0), (by xrs_), H', ⟨Nat.le_refl _⟩, by repeat (first | exact Drawn0.refl _ | apply Drawn0.step)⟩
  case round =>
   clear H'
   xcl_ c1 p2 c3 c3b0 c3b1 c3b2
   obtain ⟨x13_1, rfl, HA, HK1, ⟨m1, rfl⟩⟩ := hrel
   cases gk with
   | zero => exact absurd HA.out (by simp [slices_Equal_byte_byte.l0])
   | succ k1 =>
    have H := HA.out
    clear HA
    simp only [slices_Equal_byte_byte.l0] at H
    by_cases c4 : x13_1 < (l0.length : Int)
    ·rw [if_pos c4] at H
     have c4b0 : decide (x13_1 < (l0.length : Int)) = true := decide_eq_true c4
     clear c4
     by_cases c5 : 0 ≤ x13_1
     ·rw [if_pos c5] at H
      have c5b0 : decide (0 ≤ x13_1) = true := decide_eq_true c5
      clear c5
      by_cases c6 : x13_1 < (l0.length : Int)
      ·rw [if_pos c6] at H
       have c6b0 : decide (x13_1 < (l0.length : Int)) = true := decide_eq_true c6
       clear c6
       by_cases c7 : x13_1 < (l1.length : Int)
       ·rw [if_pos c7] at H
        have c7b0 : decide (x13_1 < (l1.length : Int)) = true := decide_eq_true c7
        clear c7
        by_cases c8 : (rd l0 x13_1) = (rd l1 x13_1)
        ·rw [if_pos c8] at H
         have c8b0 : ((rd l0 x13_1) == (rd l1 x13_1)) = true := beq_iff_eq.mpr c8
         have c8b1 : ((rd l0 x13_1) != (rd l1 x13_1)) = false := bne_eq_false_iff_eq.mpr c8
         clear c8
         have H' := Aside0.mk H
         clear H
         have p184 : 0 ≤ (x13_1 : Int) := of_decide_eq_true (by xas_)
         have q184 : x13_1 < (l0.length : Int) := of_decide_eq_true (by xas_)
         obtain ⟨ad184, e184, hx184_0⟩ := Kd.at_int HR0.out x13_1 p184 q184
         cases e184
         replace p184 := eq_true p184
         replace q184 := eq_true q184
         have p185 : 0 ≤ (x13_1 : Int) := of_decide_eq_true (by xas_)
         have q185 : x13_1 < (l1.length : Int) := of_decide_eq_true (by xas_)
         obtain ⟨ad185, e185, hx185_0⟩ := Kd.at_int HR1.out x13_1 p185 q185
         cases e185
         replace p185 := eq_true p185
         replace q185 := eq_true q185
         go_wp2
         repeat (go_quiet (fail); try go_wp2)
         go_roundg k1
         case measure => have := HK1.out; omega
         case rel => exact ⟨(wrap64 (x13_1 + 1)), (by xrs_), H', ⟨by have := HK1.out; omega⟩, by repeat (first | exact Drawn0.refl _ | apply Drawn0.step)⟩
        ·rw [if_neg c8] at H
         have c8b0 : ((rd l0 x13_1) == (rd l1 x13_1)) = false := beq_eq_false_iff_ne.mpr c8
         have c8b1 : ((rd l0 x13_1) != (rd l1 x13_1)) = true := bne_iff_ne.mpr c8
         obtain rfl := Option.some.inj H
         have p184 : 0 ≤ (x13_1 : Int) := of_decide_eq_true (by xas_)
         have q184 : x13_1 < (l0.length : Int) := of_decide_eq_true (by xas_)
         obtain ⟨ad184, e184, hx184_0⟩ := Kd.at_int HR0.out x13_1 p184 q184
         cases e184
         replace p184 := eq_true p184
         replace q184 := eq_true q184
         have p185 : 0 ≤ (x13_1 : Int) := of_decide_eq_true (by xas_)
         have q185 : x13_1 < (l1.length : Int) := of_decide_eq_true (by xas_)
         obtain ⟨ad185, e185, hx185_0⟩ := Kd.at_int HR1.out x13_1 p185 q185
         cases e185
         replace p185 := eq_true p185
         replace q185 := eq_true q185
         go_wp2
         repeat (go_quiet (fail); try go_wp2)
         go_ret
         exact ⟨by first | rfl | (simp; done) | (simp [*]; done), by repeat (first | exact Drawn0.refl _ | apply Drawn0.step)⟩
       ·rw [if_neg c7] at H
        exact absurd H (by simp)
      ·rw [if_neg c6] at H
       exact absurd H (by simp)
     ·rw [if_neg c5] at H
      exact absurd H (by simp)
    ·rw [if_neg c4] at H
     have c4b0 : decide (x13_1 < (l0.length : Int)) = false := decide_eq_false c4
     clear c4
     obtain rfl := Option.some.inj H
     go_wp2
     repeat (go_quiet (fail); try go_wp2)
     go_ret
     exact ⟨by first | rfl | (simp; done) | (simp [*]; done), by repeat (first | exact Drawn0.refl _ | apply Drawn0.step)⟩
 ·rw [if_neg c3] at H
  have c3b0 : ((l0.length : Int) == (l1.length : Int)) = false := beq_eq_false_iff_ne.mpr c3
  have c3b1 : ((l0.length : Int) != (l1.length : Int)) = true := bne_iff_ne.mpr c3
  have c3b2 : (l0.length == l1.length) = false := by first | simpa using c3 | (simp at c3 ⊢; omega)
  obtain rfl := Option.some.inj H
  go_enter Try.func51, Try.ntmps51
  go_wp2
  repeat (go_quiet (fail); try go_wp2)
  go_ret
  exact ⟨by first | rfl | (simp; done) | (simp [*]; done), by repeat (first | exact Drawn0.refl _ | apply Drawn0.step)⟩

/-! ### pack_Unbits: function 35 -/
mutual
def pack_Unbits.j0 : Nat → List Int → Int → Bool → Option (List Bool × Bool)
 | 0, _, _, _ => none
 | k + 1, x0, x1, x23 => if x23 = true then (some (([] : List Bool), false)) else (if 0 ≤ x1 then (if (x1 : Int).toNat ≤ 281474976710656 then ((some (List.replicate (x1 : Int).toNat false : List Bool)).bind fun y187 => (pack_Unbits.l0 k x0 y187 (y187.length : Int) 0)) else (none)) else (none))
def pack_Unbits.l0 : Nat → List Int → List Bool → Int → Int → Option (List Bool × Bool)
 | 0, _, _, _, _ => none
 | k + 1, x0, x6, x27, x28 => if x28 < x27 then (if 0 ≤ (wrap64 (Int.tdiv x28 8)) then (if (wrap64 (Int.tdiv x28 8)) < (x0.length : Int) then (if 0 ≤ (Int.tmod x28 8) then (if 0 ≤ x28 then (if x28 < (x6.length : Int) then (pack_Unbits.l0 k x0 (x6.set (x28 : Int).toNat ((Go.bits .and .u8 (shr .u8 (rd x0 (wrap64 (Int.tdiv x28 8))) (Int.tmod x28 8)) 1) == 1)) x27 (wrap64 (x28 + 1))) else (none)) else (none)) else (none)) else (none)) else (none)) else ((pack_Bits.f k x6).bind fun t192 => ((slices_Equal_byte_byte.f k t192 x0).bind fun t195 => (if t195 = true then (some (x6, true)) else (some (([] : List Bool), false)))))
end
def pack_Unbits.f (k : Nat) (l0 : List Int) (a1 : Int) : Option (List Bool × Bool) := if a1 < 0 then (pack_Unbits.j0 k l0 a1 true) else (if a1 > (wrap64 (8 * (l0.length : Int))) then (pack_Unbits.j0 k l0 a1 true) else ((pack_length.f a1).bind fun t186 => (pack_Unbits.j0 k l0 a1 ((l0.length : Int) != t186))))
theorem pack_Unbits.mono_l : ∀ k, (∀ y0 y1 y2, LeO (pack_Unbits.j0 k y0 y1 y2) (pack_Unbits.j0 (k + 1) y0 y1 y2)) ∧ (∀ y0 y1 y2 y3, LeO (pack_Unbits.l0 k y0 y1 y2 y3) (pack_Unbits.l0 (k + 1) y0 y1 y2 y3))
 | 0 => ⟨fun _ _ _ r h => by simp [pack_Unbits.j0] at h, fun _ _ _ _ r h => by simp [pack_Unbits.l0] at h⟩
 | k + 1 => by
  obtain ⟨ih0, ih1⟩ := pack_Unbits.mono_l k
  refine ⟨?_, ?_⟩
  ·intro y0 y1 y2
   unfold pack_Unbits.j0
   repeat' first
   | (with_reducible exact ih0 _ _ _)
   | (with_reducible exact ih1 _ _ _ _)
   | (with_reducible exact pack_Bits.mono _ _)
   | (with_reducible exact slices_Equal_byte_byte.mono _ _ _)
   | (with_reducible exact LeO.refl _)
   | (with_reducible exact LeO.none _)
   | (with_reducible refine LeO.ite ?_ ?_)
   | (with_reducible refine LeO.bind ?_ (fun _ => ?_))
   | exact ih0 _ _ _
   | exact ih1 _ _ _ _
   | exact pack_Bits.mono _ _
   | exact slices_Equal_byte_byte.mono _ _ _
   | exact LeO.none _
   | refine LeO.ite ?_ ?_
   | refine LeO.bind ?_ (fun _ => ?_)
  ·intro y0 y1 y2 y3
   unfold pack_Unbits.l0
   repeat' first
   | (with_reducible exact ih0 _ _ _)
   | (with_reducible exact ih1 _ _ _ _)
   | (with_reducible exact pack_Bits.mono _ _)
   | (with_reducible exact slices_Equal_byte_byte.mono _ _ _)
   | (with_reducible exact LeO.refl _)
   | (with_reducible exact LeO.none _)
   | (with_reducible refine LeO.ite ?_ ?_)
   | (with_reducible refine LeO.bind ?_ (fun _ => ?_))
   | exact ih0 _ _ _
   | exact ih1 _ _ _ _
   | exact pack_Bits.mono _ _
   | exact slices_Equal_byte_byte.mono _ _ _
   | exact LeO.none _
   | refine LeO.ite ?_ ?_
   | refine LeO.bind ?_ (fun _ => ?_)
theorem pack_Unbits.mono : ∀ a0 a1 k, LeO (pack_Unbits.f k a0 a1) (pack_Unbits.f (k + 1) a0 a1) := by
 intro a0 a1 k
 obtain ⟨ih0, ih1⟩ := pack_Unbits.mono_l k
 unfold pack_Unbits.f
 repeat' first
   | (with_reducible exact ih0 _ _ _)
   | (with_reducible exact ih1 _ _ _ _)
   | (with_reducible exact pack_Bits.mono _ _)
   | (with_reducible exact slices_Equal_byte_byte.mono _ _ _)
   | (with_reducible exact LeO.refl _)
   | (with_reducible exact LeO.none _)
   | (with_reducible refine LeO.ite ?_ ?_)
   | (with_reducible refine LeO.bind ?_ (fun _ => ?_))
   | exact ih0 _ _ _
   | exact ih1 _ _ _ _
   | exact pack_Bits.mono _ _
   | exact slices_Equal_byte_byte.mono _ _ _
   | exact LeO.none _
   | refine LeO.ite ?_ ?_
   | refine LeO.bind ?_ (fun _ => ?_)
set_option maxHeartbeats 8000000 in
set_option maxRecDepth 100000 in
theorem pack_Unbits.calls (k : Nat) (A0 : Option Addr) (c0 : Nat) (l0 : List Int) (a1 : Int) (r1 : List Bool) (r2 : Bool) (w : World) (hr0 : Kd.C (Kd.int .u8) w A0 l0.length l0) (hc0 : l0.length ≤ c0) (h : pack_Unbits.f k l0 a1 = some (r1, r2)) :
  Calls Try.prog 35 #[.slice A0 l0.length c0, .int .i64 a1] w fun e w' => ∃ v0_ : Value, e = .returned (.tuple #[v0_, .bool r2]) ∧ Kd.R Kd.bool 4 w' w.heap.size (fun _ => True) v0_ r1 ∧ Below w.heap.size w w' := by
 have HR0 := Aside0.mk hr0
 have HC0 := Aside0.mk hc0
 clear hr0 hc0
 have HB := Aside0.mk (Below.refl w.heap.size w)
 have H : (if a1 < 0 then (pack_Unbits.j0 k l0 a1 true) else (if a1 > (wrap64 (8 * (l0.length : Int))) then (pack_Unbits.j0 k l0 a1 true) else ((pack_length.f a1).bind fun t186 => (pack_Unbits.j0 k l0 a1 ((l0.length : Int) != t186))))) = some (r1, r2) := h
 clear h
 have HC3 := Aside0.mk H
 clear H
 go_enter Try.func35, Try.ntmps35
 go_upto_region 1 with (fail)
 go_cut [23] (fun v23 wc => ∃ (kq : Nat) (x23_2 : Bool), v23 = .bool x23_2 ∧ Aside0 (pack_Unbits.j0 kq l0 a1 x23_2 = some (r1, r2)) ∧ Aside0 (kq ≤ k) ∧ Aside0 (Below w.heap.size w wc))
 case first =>
  have H := HC3.out
  clear HC3
  by_cases c4 : a1 < 0
  ·rw [if_pos c4] at H
   have c4b0 : decide (a1 < 0) = true := decide_eq_true c4
   clear c4
   (first | rw [c4b0] | (simp only [i64_w, i32_w]; rw [c4b0]) | skip)
   have H' := Aside0.mk H
   clear H
   go_wp2
   go_meet
   case rel => exact ⟨_, (true), (by xrs_), H', ⟨by first | omega | exact Nat.le_refl _⟩, ⟨by repeat (first | (with_reducible first | exact HB.out | apply below_alloc | apply pw_below_drewN | apply below_drew1) | exact HB.out)⟩⟩
  ·rw [if_neg c4] at H
   have c4b0 : decide (a1 < 0) = false := decide_eq_false c4
   clear c4
   (first | rw [c4b0] | (simp only [i64_w, i32_w]; rw [c4b0]) | skip)
   by_cases c5 : a1 > (wrap64 (8 * (l0.length : Int)))
   ·rw [if_pos c5] at H
    have c5b0 : decide ((wrap64 (8 * (l0.length : Int))) < a1) = true := decide_eq_true c5
    (try (have c5b0_hl6_2 := c5b0; rw [hl6_2] at c5b0_hl6_2))
    clear c5
    have H' := Aside0.mk H
    clear H
    go_wp2
    go_meet
    case rel => exact ⟨_, (true), (by xrs_), H', ⟨by first | omega | exact Nat.le_refl _⟩, ⟨by repeat (first | (with_reducible first | exact HB.out | apply below_alloc | apply pw_below_drewN | apply below_drew1) | exact HB.out)⟩⟩
   ·rw [if_neg c5] at H
    have c5b0 : decide ((wrap64 (8 * (l0.length : Int))) < a1) = false := decide_eq_false c5
    (try (have c5b0_hl6_2 := c5b0; rw [hl6_2] at c5b0_hl6_2))
    clear c5
    replace H := Option.bind_eq_some_iff.mp H
    obtain ⟨t186, A60, H⟩ := H
    replace H : (pack_Unbits.j0 k l0 a1 ((l0.length : Int) != t186)) = some (r1, r2) := H
    have A6 := Aside0.mk A60
    clear A60
    have H' := Aside0.mk H
    clear H
    go_wp2_with (first | (go_at_call 49; (with_reducible refine (pack_length.calls a1 t186 _ A6.out).mono ?_); rintro e w' ⟨rfl, ⟨nd, rfl⟩⟩))
    go_meet
    case rel => exact ⟨_, (((l0.length : Int) != t186)), (by xrs_), H', ⟨by first | omega | exact Nat.le_refl _⟩, ⟨by repeat (first | (with_reducible first | exact HB.out | apply below_alloc | apply pw_below_drewN | apply below_drew1) | exact HB.out)⟩⟩
 case rest =>
  clear HC3
  xcl_ p2 c3 c4 c4b0 c5 c5b0 p6
  obtain ⟨kq, x23_2, rfl, HA, HJ2, HB⟩ := hcut
  cases kq with
  | zero => exact absurd HA.out (by simp [pack_Unbits.j0])
  | succ kj2 =>
   have H := HA.out
   clear HA
   simp only [pack_Unbits.j0] at H
   by_cases c7 : x23_2 = true
   ·subst c7
    have H1 : (some (([] : List Bool), false)) = some (r1, r2) := by rw [if_pos rfl] at H; exact H
    clear H
    have H := H1
    clear H1
    simp only [Option.some.injEq, Prod.mk.injEq] at H
    obtain ⟨rfl, rfl⟩ := H
    go_wp2
    go_ret2
    exact ⟨_, by first | rfl | (simp [errW_none, errW_some] <;> rfl) | (simp [*, errW_none, errW_some] <;> rfl), by xni_, by repeat (first | (with_reducible first | exact HB.out | apply below_alloc | apply pw_below_drewN | apply below_drew1) | exact HB.out)⟩
   ·replace c7 := Bool.eq_false_iff.mpr c7
    subst c7
    have H1 : (if 0 ≤ a1 then (if (a1 : Int).toNat ≤ 281474976710656 then ((some (List.replicate (a1 : Int).toNat false : List Bool)).bind fun y187 => (pack_Unbits.l0 kj2 l0 y187 (y187.length : Int) 0)) else (none)) else (none)) = some (r1, r2) := by rw [if_neg (show ¬ (false = true) by decide)] at H; exact H
    clear H
    have H := H1
    clear H1
    by_cases c8 : 0 ≤ a1
    ·rw [if_pos c8] at H
     have c8b0 := eq_true c8
     have c8b1 : decide (0 ≤ a1) = true := decide_eq_true c8
     clear c8
     by_cases c9 : (a1 : Int).toNat ≤ 281474976710656
     ·rw [if_pos c9] at H
      have c9b0 := eq_true c9
      have c9b1 : decide ((a1 : Int).toNat ≤ 281474976710656) = true := decide_eq_true c9
      clear c9
      obtain ⟨y187, hy187⟩ : ∃ y_ : List Bool, y_ = (List.replicate (a1 : Int).toNat false) := ⟨_, rfl⟩
      replace H : (pack_Unbits.l0 kj2 l0 y187 (y187.length : Int) 0) = some (r1, r2) := by first | (rw [hy187]; with_reducible exact H) | (have H2_ := (Option.bind_some _ _).symm.trans H; rw [hy187]; with_reducible exact H2_) | (have H2_ := (Option.bind_some _ _).symm.trans H; with_reducible exact H2_) | with_reducible exact H | (rw [hy187]; exact H) | exact H
      have Ny187 := Aside0.mk hy187
      clear hy187
      have H' := Aside0.mk H
      clear H
      go_wp2_with (first | ((with_reducible refine gate_dst (N := 25) rfl ?_); xgg_; refine Kd.R_make Kd.bool _ 4 rfl (N := 25) rfl 24 _ _ rfl a1 rfl rfl Try.underlying24 (.bool false) 1 info4 rfl (by decide) (by omega) false (ok := fun _ => True) (okp := fun _ => True) rfl (fun _ hk => hk) trivial (of_decide_eq_true (by xas_)) (Nat.le_trans (Nat.mul_le_mul_right _ (of_decide_eq_true (by xas_) : a1.toNat ≤ 281474976710656)) (by omega)) (Below.refl _ _) (Nat.le_refl _) ?_; intro v188 w10 ho11 hb hg_ hnew_; clear hg_ hnew_; (first | rw [← Ny187.out] at ho11 | (simp only [Int.reduceToNat] at ho11; rw [← Ny187.out] at ho11)); have n0_ := Aside0.mk (Kd.R_lower ho11 (below_size (by repeat (first | (with_reducible first | exact HB.out | apply below_alloc | apply pw_below_drewN | apply below_drew1) | exact HB.out)))); have n1_ := Aside0.mk (below_step (by repeat (first | (with_reducible first | exact HB.out | apply below_alloc | apply pw_below_drewN | apply below_drew1) | exact HB.out)) hb); clear HB; have HO189 := n0_; have HB := n1_; clear n0_ n1_; clear hb ho11; obtain ⟨Ao12, co12, eo12⟩ := Kd.R_slice HO189.out; subst eo12))
      go_loopg [28] kj2 (fun kq v28 w' => ∃ (x6_2 : List Bool) (x28_2 : Int), v28 = .int .i64 x28_2 ∧ Aside0 (pack_Unbits.l0 kq l0 x6_2 (y187.length : Int) x28_2 = some (r1, r2)) ∧ Aside0 (kq ≤ kj2) ∧ Aside0 (Kd.R Kd.bool 4 w' w.heap.size (fun _ => True) (.slice Ao12 y187.length co12) x6_2) ∧ Aside0 (Below w.heap.size w w'))
      case atStart => exact ⟨(y187), (0), (by xrs_), H', ⟨Nat.le_refl _⟩, ⟨by xkR_; exact HO189.out⟩, ⟨by repeat (first | (with_reducible first | exact HB.out | apply below_alloc | apply pw_below_drewN | apply below_drew1) | exact HB.out)⟩⟩
      case round =>
       clear H'
       xcl_ p2 c3 c4 c4b0 c5 c5b0 p6 c7 c8 c8b0 c8b1 c9 c9b0 c9b1 p2 p6
       obtain ⟨x6_2, x28_2, rfl, HA, HK2, HO_6, HB⟩ := hrel
       have hl6_2 := (Kd.R_reads' HO_6.out).1
       rw [hl6_2] at HO_6
       (try simp only [hl6_2])
       cases gk with
       | zero => exact absurd HA.out (by simp [pack_Unbits.l0])
       | succ k2 =>
        have H := HA.out
        clear HA
        simp only [pack_Unbits.l0] at H
        by_cases c13 : x28_2 < (y187.length : Int)
        ·rw [if_pos c13] at H
         have c13b0 : decide (x28_2 < (y187.length : Int)) = true := decide_eq_true c13
         (try (have c13b0_hl6_2 := c13b0; rw [hl6_2] at c13b0_hl6_2))
         clear c13
         obtain ⟨ji14, hji14⟩ : ∃ j_ : Int, (wrap64 (Int.tdiv x28_2 8)) = j_ := ⟨_, rfl⟩
         replace H : (if 0 ≤ (ji14) then (if (ji14) < (l0.length : Int) then (if 0 ≤ (Int.tmod x28_2 8) then (if 0 ≤ x28_2 then (if x28_2 < (x6_2.length : Int) then (pack_Unbits.l0 k2 l0 (x6_2.set (x28_2 : Int).toNat ((Go.bits .and .u8 (shr .u8 (rd l0 (ji14)) (Int.tmod x28_2 8)) 1) == 1)) (y187.length : Int) (wrap64 (x28_2 + 1))) else (none)) else (none)) else (none)) else (none)) else (none)) = some (r1, r2) := by first | (rw [hji14] at H; exact H) | (simp only [hji14] at H ⊢; exact H)
         have hji14w : (IntKind.i64.wrap (Int.tdiv x28_2 8)) = ji14 := (i64_w _).trans hji14
         by_cases c15 : 0 ≤ (ji14)
         ·rw [if_pos c15] at H
          have c15b0 : decide (0 ≤ (ji14)) = true := decide_eq_true c15
          clear c15
          by_cases c16 : (ji14) < (l0.length : Int)
          ·rw [if_pos c16] at H
           have c16b0 : decide ((ji14) < (l0.length : Int)) = true := decide_eq_true c16
           (try (have c16b0_hl6_2 := c16b0; rw [hl6_2] at c16b0_hl6_2))
           clear c16
           obtain ⟨ji17, hji17⟩ : ∃ j_ : Int, (Int.tmod x28_2 8) = j_ := ⟨_, rfl⟩
           replace H : (if 0 ≤ (ji17) then (if 0 ≤ x28_2 then (if x28_2 < (x6_2.length : Int) then (pack_Unbits.l0 k2 l0 (x6_2.set (x28_2 : Int).toNat ((Go.bits .and .u8 (shr .u8 (rd l0 (ji14)) (ji17)) 1) == 1)) (y187.length : Int) (wrap64 (x28_2 + 1))) else (none)) else (none)) else (none)) = some (r1, r2) := by first | (rw [hji17] at H; exact H) | (simp only [hji17] at H ⊢; exact H)
           by_cases c18 : 0 ≤ (ji17)
           ·rw [if_pos c18] at H
            have c18b0 := eq_true c18
            have c18b1 : decide (0 ≤ (ji17)) = true := decide_eq_true c18
            clear c18
            obtain ⟨ji19, hji19⟩ : ∃ j_ : Int, (shr .u8 (rd l0 (ji14)) (ji17)) = j_ := ⟨_, rfl⟩
            replace H : (if 0 ≤ x28_2 then (if x28_2 < (x6_2.length : Int) then (pack_Unbits.l0 k2 l0 (x6_2.set (x28_2 : Int).toNat ((Go.bits .and .u8 (ji19) 1) == 1)) (y187.length : Int) (wrap64 (x28_2 + 1))) else (none)) else (none)) = some (r1, r2) := by first | (rw [hji19] at H; exact H) | (simp only [hji19] at H ⊢; exact H)
            have hji19_ : ((rd l0 (ji14)) / 2 ^ min (ji17).toNat 8) = ji19 := hji19
            have hji19z : (ji17) ≤ 8 → ((rd l0 (ji14)) / 2 ^ (ji17).toNat) = ji19 := shr_small hji19
            by_cases c20 : 0 ≤ x28_2
            ·rw [if_pos c20] at H
             have c20b0 : decide (0 ≤ x28_2) = true := decide_eq_true c20
             clear c20
             by_cases c21 : x28_2 < (x6_2.length : Int)
             ·rw [if_pos c21] at H
              have c21b0 : decide (x28_2 < (x6_2.length : Int)) = true := decide_eq_true c21
              (try (have c21b0_hl6_2 := c21b0; rw [hl6_2] at c21b0_hl6_2))
              clear c21
              obtain ⟨y191, hy191⟩ : ∃ y_ : List Bool, y_ = (x6_2.set (x28_2 : Int).toNat ((Go.bits .and .u8 (ji19) 1) == 1)) := ⟨_, rfl⟩
              replace H : (pack_Unbits.l0 k2 l0 y191 (y187.length : Int) (wrap64 (x28_2 + 1))) = some (r1, r2) := by first | (rw [hy191]; with_reducible exact H) | (have H2_ := (Option.bind_some _ _).symm.trans H; rw [hy191]; with_reducible exact H2_) | (have H2_ := (Option.bind_some _ _).symm.trans H; with_reducible exact H2_) | with_reducible exact H | (rw [hy191]; exact H) | exact H
              have Ny191 := Aside0.mk hy191
              clear hy191
              have H' := Aside0.mk H
              clear H
              have p190 : 0 ≤ ((ji14) : Int) := of_decide_eq_true (by xas_)
              have q190 : (ji14) < (l0.length : Int) := of_decide_eq_true (by xas_)
              obtain ⟨ad190, e190, hx190_0⟩ := Kd.at_int HR0.out (ji14) p190 q190
              cases e190
              replace hx190_0 := (HB.out.cell (World.block_lt_of_cell? w _ hx190_0)).trans hx190_0
              replace p190 := eq_true p190
              replace q190 := eq_true q190
              have p22 : 0 ≤ (x28_2 : Int) := of_decide_eq_true (by xas_)
              have q22 : (x28_2 : Int) < ((x6_2.length : Int) : Int) := of_decide_eq_true (by xas_)
              obtain ⟨go22, co22, eo22, gb22, gl22, cl22, HG22⟩ := Kd.R_form HO_6.out (by omega)
              (first | cases eo22 | (injection eo22 with ea_ en_ ec_; (first | subst ea_ | (injection ea_ with ea_; subst ea_)); subst ec_; clear en_))
              have GB22 := Aside0.mk gb22
              have GG22 := Aside0.mk HG22
              clear gb22 gl22 HG22
              obtain ⟨hx22_0, hf22_0⟩ := Kd.R_celln false HO_6.out (x28_2 : Int) p22 q22
              replace p22 := eq_true p22
              replace q22 := eq_true q22
              have HP23 := Kd.R_putg HO_6.out (x28_2 : Int) ((Go.bits .and .u8 (ji19) 1) == 1)
              go_wp2_with (first | ((with_reducible refine gate_store (t := 4) (p := 43) rfl ?_); refine store_event (t := 4) (p := 43) (v := ?vo_w24) (w1 := (wr.setCell ⟨go22, (x28_2 : Int).toNat, none⟩ (.bool ((Go.bits .and .u8 (ji19) 1) == 1)))) ?hg ?ho ?hn ?hr ?_; (case ho => rfl); (case hg => rfl); (case hn => rfl); (case hr => xgs_); intro w24 hw; have hg : wr.grownBy w24 (some go22) := (by rw [hw]; exact HP23.2); have hp_ : Kd.R Kd.bool 4 w24 w.heap.size (fun _ => True) (.slice (some ⟨go22, 0, none⟩) x6_2.length co12) y191 := (by rw [hw, Ny191.out]; exact HP23.1); clear HP23; have n0_ := Aside0.mk (hp_); have n1_ := Aside0.mk ((by rw [hw]; exact below_set (HB.out) GB22.out : Below w.heap.size w w24)); clear HO_6; clear HB; have HO_6 := n0_; have HB := n1_; clear n0_ n1_; clear hg hw hp_))
              (try simp only [← hl6_2])
              go_roundg k2
              case measure => have := HJ2.out; have := HK2.out; omega
              case rel => exact ⟨(y191), (wrap64 (x28_2 + 1)), (by xrs_), H', ⟨by have := HJ2.out; have := HK2.out; omega⟩, ⟨by (try simp only [hl6_2]); xkR_; exact HO_6.out⟩, ⟨by repeat (first | (with_reducible first | exact HB.out | apply below_alloc | apply pw_below_drewN | apply below_drew1) | exact HB.out)⟩⟩
             ·rw [if_neg c21] at H
              exact absurd H (by simp)
            ·rw [if_neg c20] at H
             exact absurd H (by simp)
           ·rw [if_neg c18] at H
            exact absurd H (by simp)
          ·rw [if_neg c16] at H
           exact absurd H (by simp)
         ·rw [if_neg c15] at H
          exact absurd H (by simp)
        ·rw [if_neg c13] at H
         have c13b0 : decide (x28_2 < (y187.length : Int)) = false := decide_eq_false c13
         (try (have c13b0_hl6_2 := c13b0; rw [hl6_2] at c13b0_hl6_2))
         clear c13
         replace H := Option.bind_eq_some_iff.mp H
         obtain ⟨t192, A250, H⟩ := H
         replace H : ((slices_Equal_byte_byte.f k2 t192 l0).bind fun t195 => (if t195 = true then (some (x6_2, true)) else (some (([] : List Bool), false)))) = some (r1, r2) := H
         have A25 := Aside0.mk A250
         clear A250
         replace H := Option.bind_eq_some_iff.mp H
         obtain ⟨t195, A260, H⟩ := H
         replace H : (if t195 = true then (some (x6_2, true)) else (some (([] : List Bool), false))) = some (r1, r2) := H
         have A26 := Aside0.mk A260
         clear A260
         by_cases c27 : t195 = true
         ·subst c27
          have H1 : (some (x6_2, true)) = some (r1, r2) := by rw [if_pos rfl] at H; exact H
          clear H
          have H := H1
          clear H1
          simp only [Option.some.injEq, Prod.mk.injEq] at H
          obtain ⟨rfl, rfl⟩ := H
          go_wp2_with (first | ((with_reducible refine gate_callee (f := 28) rfl ?_); refine goesL_ (some 46) rfl rfl Try.func28 (by kernel_rfl) rfl #[.slice Ao12 x6_2.length co12] rfl (by xlm_) ?_; (with_reducible refine (pack_Bits.calls k2 _ _ x6_2 t192 _ ?side1 ?side2 A25.out).mono ?_); (case side1 => repeat (first | exact (Kd.R_reads' HO_6.out).2.2 | xkC_)); (case side2 => exact (Kd.R_reads' HO_6.out).2.1); rintro e w28 ⟨v193, rfl, ho0, hb⟩; refine ⟨_, rfl, ?_⟩; have n0_ := Aside0.mk (Kd.R_below (by xkR_; exact HO_6.out) hb); have n1_ := Aside0.mk (Kd.R_lower ho0 (below_size (by repeat (first | (with_reducible first | exact HB.out | apply below_alloc | apply pw_below_drewN | apply below_drew1) | exact HB.out)))); have n2_ := Aside0.mk (below_step (by repeat (first | (with_reducible first | exact HB.out | apply below_alloc | apply pw_below_drewN | apply below_drew1) | exact HB.out)) hb); clear HO_6; clear HB; have HO_6 := n0_; have HO194 := n1_; have HB := n2_; clear n0_ n1_ n2_; (try clear hb); (try clear hb2); (try clear hk); (try clear hi); (try clear ho0); obtain ⟨Ao29, co29, eo29⟩ := Kd.R_slice HO194.out; subst eo29) | ((with_reducible refine gate_callee (f := 51) rfl ?_); refine goesL_ (some 48) rfl rfl Try.func51 (by kernel_rfl) rfl #[.slice Ao29 t192.length co29, .slice A0 l0.length c0] rfl (by xlm_) ?_; (with_reducible refine (slices_Equal_byte_byte.calls k2 _ _ t192 _ _ l0 true _ ?side1 ?side2 ?side3 ?side4 A26.out).mono ?_); (case side1 => repeat (first | exact (Kd.R_reads' HO194.out).2.2 | xkC_)); (case side2 => exact (Kd.R_reads' HO194.out).2.1); (case side3 => repeat (first | exact (Kd.C_below HR0.out HB.out) | xkC_)); (case side4 => exact HC0.out); rintro e w' ⟨rfl, ⟨nd, rfl⟩⟩; refine ⟨_, rfl, ?_⟩))
          go_ret2
          exact ⟨_, by first | rfl | (simp [errW_none, errW_some] <;> rfl) | (simp [*, errW_none, errW_some] <;> rfl), by xkR_; exact HO_6.out, by repeat (first | (with_reducible first | exact HB.out | apply below_alloc | apply pw_below_drewN | apply below_drew1) | exact HB.out)⟩
         ·replace c27 := Bool.eq_false_iff.mpr c27
          subst c27
          have H1 : (some (([] : List Bool), false)) = some (r1, r2) := by rw [if_neg (show ¬ (false = true) by decide)] at H; exact H
          clear H
          have H := H1
          clear H1
          simp only [Option.some.injEq, Prod.mk.injEq] at H
          obtain ⟨rfl, rfl⟩ := H
          go_wp2_with (first | ((with_reducible refine gate_callee (f := 28) rfl ?_); refine goesL_ (some 46) rfl rfl Try.func28 (by kernel_rfl) rfl #[.slice Ao12 x6_2.length co12] rfl (by xlm_) ?_; (with_reducible refine (pack_Bits.calls k2 _ _ x6_2 t192 _ ?side1 ?side2 A25.out).mono ?_); (case side1 => repeat (first | exact (Kd.R_reads' HO_6.out).2.2 | xkC_)); (case side2 => exact (Kd.R_reads' HO_6.out).2.1); rintro e w30 ⟨v193, rfl, ho0, hb⟩; refine ⟨_, rfl, ?_⟩; have n0_ := Aside0.mk (Kd.R_below (by xkR_; exact HO_6.out) hb); have n1_ := Aside0.mk (Kd.R_lower ho0 (below_size (by repeat (first | (with_reducible first | exact HB.out | apply below_alloc | apply pw_below_drewN | apply below_drew1) | exact HB.out)))); have n2_ := Aside0.mk (below_step (by repeat (first | (with_reducible first | exact HB.out | apply below_alloc | apply pw_below_drewN | apply below_drew1) | exact HB.out)) hb); clear HO_6; clear HB; have HO_6 := n0_; have HO194 := n1_; have HB := n2_; clear n0_ n1_ n2_; (try clear hb); (try clear hb2); (try clear hk); (try clear hi); (try clear ho0); obtain ⟨Ao31, co31, eo31⟩ := Kd.R_slice HO194.out; subst eo31) | ((with_reducible refine gate_callee (f := 51) rfl ?_); refine goesL_ (some 48) rfl rfl Try.func51 (by kernel_rfl) rfl #[.slice Ao31 t192.length co31, .slice A0 l0.length c0] rfl (by xlm_) ?_; (with_reducible refine (slices_Equal_byte_byte.calls k2 _ _ t192 _ _ l0 false _ ?side1 ?side2 ?side3 ?side4 A26.out).mono ?_); (case side1 => repeat (first | exact (Kd.R_reads' HO194.out).2.2 | xkC_)); (case side2 => exact (Kd.R_reads' HO194.out).2.1); (case side3 => repeat (first | exact (Kd.C_below HR0.out HB.out) | xkC_)); (case side4 => exact HC0.out); rintro e w' ⟨rfl, ⟨nd, rfl⟩⟩; refine ⟨_, rfl, ?_⟩))
          go_ret2
          exact ⟨_, by first | rfl | (simp [errW_none, errW_some] <;> rfl) | (simp [*, errW_none, errW_some] <;> rfl), by xni_, by repeat (first | (with_reducible first | exact HB.out | apply below_alloc | apply pw_below_drewN | apply below_drew1) | exact HB.out)⟩
     ·rw [if_neg c9] at H
      exact absurd H (by simp)
    ·rw [if_neg c8] at H
     exact absurd H (by simp)

end Go.Proofs.Ytpcbhghgommijaa.X
