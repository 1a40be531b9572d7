/- Functions of the program as Lean functions, and that the program comes to their answers (written by this session's own program, wip/x/xprint.py; Lean checks it). -/
import Derived.Test.YtoilaibpmepecaaXx0
import Derived.Test.YtoilaibpmepecaaXx3
import Derived.Test.YtoilaibpmepecaaXx4
import Derived.Test.YtoilaibpmepecaaXx5
import Derived.Test.YtoilaibpmepecaaXx6
namespace Go.Proofs.Ytoilaibpmepecaa.X
open Go.RowKit Go.Proofs.YtoilaibpmepecaaW.PrintWords Go.Proofs.YtoilaibpmepecaaW.PrintLast Go.Proofs.YtoilaibpmepecaaW.PrintMore
attribute [local go_sem] max2_int min2_int max_two min_two max_three min_three max_four min_four   -- for this text's walks alone
set_option linter.unusedVariables false
set_option linter.unusedSimpArgs false

/-! ### caesuralaw05_PackBack: function 9 -/
mutual
def caesuralaw05_PackBack.j0 : Nat → List Int → List Bool → Int → Int → Bool → Option (Bool)
  | 0, _, _, _, _, _ => none
  | k + 1, x0, x2, x7, x8, x29 => if x29 = true then ((caesuralaw05_wakes.f k).bind fun t337 => (some t337)) else ((pack_Put.f x0 (wrap64 (x7)) (wrap64 (1 + (Int.tmod (wrap64 (x8)) 4)))).bind fun t338 => (if (t338.length : Int) = (wrap64 ((x0.length : Int) + (wrap64 (1 + (Int.tmod (wrap64 (x8)) 4))))) then (if 0 ≤ (x0.length : Int) then (if (x0.length : Int) ≤ (t338.length : Int) then ((caesurakeep_Bytes.f (t338.take ((x0.length : Int) : Int).toNat) x0).bind fun t345 => (caesuralaw05_PackBack.j1 k x0 x2 x7 (wrap64 (1 + (Int.tmod (wrap64 (x8)) 4))) t338 (!t345))) else (none)) else (none)) else (caesuralaw05_PackBack.j1 k x0 x2 x7 (wrap64 (1 + (Int.tmod (wrap64 (x8)) 4))) t338 true)))
def caesuralaw05_PackBack.j1 : Nat → List Int → List Bool → Int → Int → List Int → Bool → Option (Bool)
  | 0, _, _, _, _, _, _ => none
  | k + 1, x0, x2, x7, x9, x10, x55 => if x55 = true then (none) else ((pack_Get.f k x10 (x0.length : Int) x9).bind fun bt346 => (if bt346.2 = true then (if 0 ≤ (IntKind.u64.wrap (wrap64 (8 * x9))) then (caesuralaw05_PackBack.j2 k x2 (bt346.1 != (Go.bits .and .i64 (wrap64 (x7)) (wrap64 ((shl .i64 1 (IntKind.u64.wrap (wrap64 (8 * x9)))) - 1))))) else (none)) else (caesuralaw05_PackBack.j2 k x2 true)))
def caesuralaw05_PackBack.j2 : Nat → List Bool → Bool → Option (Bool)
  | 0, _, _ => none
  | k + 1, x2, x77 => if x77 = true then (none) else ((pack_Bits.f k x2).bind fun t348 => ((pack_Unbits.f k t348 (x2.length : Int)).bind fun bt351 => (if bt351.2 = true then ((caesurakeep_Bools.f k bt351.1 x2).bind fun t355 => (if t355 = true then (caesuralaw05_PackBack.j3 k x2 t348 ((t348.length : Int) != (wrap64 (Int.tdiv (wrap64 ((x2.length : Int) + 7)) 8)))) else (caesuralaw05_PackBack.j3 k x2 t348 true))) else (caesuralaw05_PackBack.j3 k x2 t348 true))))
def caesuralaw05_PackBack.j3 : Nat → List Bool → List Int → Bool → Option (Bool)
  | 0, _, _, _ => none
  | k + 1, x2, x13, x103 => if x103 = true then (none) else (if ((x2.length : Int) % 8) = 0 then ((caesuralaw05_wakes.f k).bind fun t356 => (some t356)) else (if 0 ≤ (wrap64 ((x13.length : Int) - 1)) then (if (wrap64 ((x13.length : Int) - 1)) < (x13.length : Int) then ((pack_Unbits.f k (x13.set ((wrap64 ((x13.length : Int) - 1)) : Int).toNat (Go.bits .or .u8 (rd x13 (wrap64 ((x13.length : Int) - 1))) ((2 ^ ((x2.length : Int) % 8).toNat) % 256))) (x2.length : Int)).bind fun bt359 => (if bt359.2 = true then (none) else ((caesuralaw05_wakes.f k).bind fun t363 => (some t363)))) else (none)) else (none)))
end
def caesuralaw05_PackBack.f (k : Nat) (l0 : List Int) (a1_0 : Int) (a1_1 : Int) (l2 : List Bool) : Option (Bool) := if (l0.length : Int) > 300 then (caesuralaw05_PackBack.j0 k l0 l2 a1_0 a1_1 true) else (caesuralaw05_PackBack.j0 k l0 l2 a1_0 a1_1 (decide ((l2.length : Int) > 300)))
theorem caesuralaw05_PackBack.mono_l : ∀ k, (∀ y0 y1 y2 y3 y4, LeO (caesuralaw05_PackBack.j0 k y0 y1 y2 y3 y4) (caesuralaw05_PackBack.j0 (k + 1) y0 y1 y2 y3 y4)) ∧ (∀ y0 y1 y2 y3 y4 y5, LeO (caesuralaw05_PackBack.j1 k y0 y1 y2 y3 y4 y5) (caesuralaw05_PackBack.j1 (k + 1) y0 y1 y2 y3 y4 y5)) ∧ (∀ y0 y1, LeO (caesuralaw05_PackBack.j2 k y0 y1) (caesuralaw05_PackBack.j2 (k + 1) y0 y1)) ∧ (∀ y0 y1 y2, LeO (caesuralaw05_PackBack.j3 k y0 y1 y2) (caesuralaw05_PackBack.j3 (k + 1) y0 y1 y2))
  | 0 => ⟨fun _ _ _ _ _ r h => by simp [caesuralaw05_PackBack.j0] at h, fun _ _ _ _ _ _ r h => by simp [caesuralaw05_PackBack.j1] at h, fun _ _ r h => by simp [caesuralaw05_PackBack.j2] at h, fun _ _ _ r h => by simp [caesuralaw05_PackBack.j3] at h⟩
  | k + 1 => by
    obtain ⟨ih0, ih1, ih2, ih3⟩ := caesuralaw05_PackBack.mono_l k
    refine ⟨?_, ?_, ?_, ?_⟩
    · intro y0 y1 y2 y3 y4
      unfold caesuralaw05_PackBack.j0
      repeat' first
      | (with_reducible exact ih0 _ _ _ _ _)
      | (with_reducible exact ih1 _ _ _ _ _ _)
      | (with_reducible exact ih2 _ _)
      | (with_reducible exact ih3 _ _ _)
      | (with_reducible exact caesurakeep_Bools.mono _ _ _)
      | (with_reducible exact caesuralaw05_wakes.mono _)
      | (with_reducible exact pack_Bits.mono _ _)
      | (with_reducible exact pack_Get.mono _ _ _ _)
      | (with_reducible exact pack_Unbits.mono _ _ _)
      | (with_reducible exact LeO.refl _)
      | (with_reducible exact LeO.none _)
      | (with_reducible refine LeO.ite ?_ ?_)
      | (with_reducible refine LeO.bind ?_ (fun _ => ?_))
      | exact ih0 _ _ _ _ _
      | exact ih1 _ _ _ _ _ _
      | exact ih2 _ _
      | exact ih3 _ _ _
      | exact caesurakeep_Bools.mono _ _ _
      | exact caesuralaw05_wakes.mono _
      | exact pack_Bits.mono _ _
      | exact pack_Get.mono _ _ _ _
      | exact pack_Unbits.mono _ _ _
      | exact LeO.none _
      | refine LeO.ite ?_ ?_
      | refine LeO.bind ?_ (fun _ => ?_)
    · intro y0 y1 y2 y3 y4 y5
      unfold caesuralaw05_PackBack.j1
      repeat' first
      | (with_reducible exact ih0 _ _ _ _ _)
      | (with_reducible exact ih1 _ _ _ _ _ _)
      | (with_reducible exact ih2 _ _)
      | (with_reducible exact ih3 _ _ _)
      | (with_reducible exact caesurakeep_Bools.mono _ _ _)
      | (with_reducible exact caesuralaw05_wakes.mono _)
      | (with_reducible exact pack_Bits.mono _ _)
      | (with_reducible exact pack_Get.mono _ _ _ _)
      | (with_reducible exact pack_Unbits.mono _ _ _)
      | (with_reducible exact LeO.refl _)
      | (with_reducible exact LeO.none _)
      | (with_reducible refine LeO.ite ?_ ?_)
      | (with_reducible refine LeO.bind ?_ (fun _ => ?_))
      | exact ih0 _ _ _ _ _
      | exact ih1 _ _ _ _ _ _
      | exact ih2 _ _
      | exact ih3 _ _ _
      | exact caesurakeep_Bools.mono _ _ _
      | exact caesuralaw05_wakes.mono _
      | exact pack_Bits.mono _ _
      | exact pack_Get.mono _ _ _ _
      | exact pack_Unbits.mono _ _ _
      | exact LeO.none _
      | refine LeO.ite ?_ ?_
      | refine LeO.bind ?_ (fun _ => ?_)
    · intro y0 y1
      unfold caesuralaw05_PackBack.j2
      repeat' first
      | (with_reducible exact ih0 _ _ _ _ _)
      | (with_reducible exact ih1 _ _ _ _ _ _)
      | (with_reducible exact ih2 _ _)
      | (with_reducible exact ih3 _ _ _)
      | (with_reducible exact caesurakeep_Bools.mono _ _ _)
      | (with_reducible exact caesuralaw05_wakes.mono _)
      | (with_reducible exact pack_Bits.mono _ _)
      | (with_reducible exact pack_Get.mono _ _ _ _)
      | (with_reducible exact pack_Unbits.mono _ _ _)
      | (with_reducible exact LeO.refl _)
      | (with_reducible exact LeO.none _)
      | (with_reducible refine LeO.ite ?_ ?_)
      | (with_reducible refine LeO.bind ?_ (fun _ => ?_))
      | exact ih0 _ _ _ _ _
      | exact ih1 _ _ _ _ _ _
      | exact ih2 _ _
      | exact ih3 _ _ _
      | exact caesurakeep_Bools.mono _ _ _
      | exact caesuralaw05_wakes.mono _
      | exact pack_Bits.mono _ _
      | exact pack_Get.mono _ _ _ _
      | exact pack_Unbits.mono _ _ _
      | exact LeO.none _
      | refine LeO.ite ?_ ?_
      | refine LeO.bind ?_ (fun _ => ?_)
    · intro y0 y1 y2
      unfold caesuralaw05_PackBack.j3
      repeat' first
      | (with_reducible exact ih0 _ _ _ _ _)
      | (with_reducible exact ih1 _ _ _ _ _ _)
      | (with_reducible exact ih2 _ _)
      | (with_reducible exact ih3 _ _ _)
      | (with_reducible exact caesurakeep_Bools.mono _ _ _)
      | (with_reducible exact caesuralaw05_wakes.mono _)
      | (with_reducible exact pack_Bits.mono _ _)
      | (with_reducible exact pack_Get.mono _ _ _ _)
      | (with_reducible exact pack_Unbits.mono _ _ _)
      | (with_reducible exact LeO.refl _)
      | (with_reducible exact LeO.none _)
      | (with_reducible refine LeO.ite ?_ ?_)
      | (with_reducible refine LeO.bind ?_ (fun _ => ?_))
      | exact ih0 _ _ _ _ _
      | exact ih1 _ _ _ _ _ _
      | exact ih2 _ _
      | exact ih3 _ _ _
      | exact caesurakeep_Bools.mono _ _ _
      | exact caesuralaw05_wakes.mono _
      | exact pack_Bits.mono _ _
      | exact pack_Get.mono _ _ _ _
      | exact pack_Unbits.mono _ _ _
      | exact LeO.none _
      | refine LeO.ite ?_ ?_
      | refine LeO.bind ?_ (fun _ => ?_)
theorem caesuralaw05_PackBack.mono : ∀ a0 a1 a2 a3 k, LeO (caesuralaw05_PackBack.f k a0 a1 a2 a3) (caesuralaw05_PackBack.f (k + 1) a0 a1 a2 a3) := by
  intro a0 a1 a2 a3 k
  obtain ⟨ih0, ih1, ih2, ih3⟩ := caesuralaw05_PackBack.mono_l k
  unfold caesuralaw05_PackBack.f
  repeat' first
      | (with_reducible exact ih0 _ _ _ _ _)
      | (with_reducible exact ih1 _ _ _ _ _ _)
      | (with_reducible exact ih2 _ _)
      | (with_reducible exact ih3 _ _ _)
      | (with_reducible exact caesurakeep_Bools.mono _ _ _)
      | (with_reducible exact caesuralaw05_wakes.mono _)
      | (with_reducible exact pack_Bits.mono _ _)
      | (with_reducible exact pack_Get.mono _ _ _ _)
      | (with_reducible exact pack_Unbits.mono _ _ _)
      | (with_reducible exact LeO.refl _)
      | (with_reducible exact LeO.none _)
      | (with_reducible refine LeO.ite ?_ ?_)
      | (with_reducible refine LeO.bind ?_ (fun _ => ?_))
      | exact ih0 _ _ _ _ _
      | exact ih1 _ _ _ _ _ _
      | exact ih2 _ _
      | exact ih3 _ _ _
      | exact caesurakeep_Bools.mono _ _ _
      | exact caesuralaw05_wakes.mono _
      | exact pack_Bits.mono _ _
      | exact pack_Get.mono _ _ _ _
      | exact pack_Unbits.mono _ _ _
      | exact LeO.none _
      | refine LeO.ite ?_ ?_
      | refine LeO.bind ?_ (fun _ => ?_)
set_option maxHeartbeats 8000000 in
set_option maxRecDepth 100000 in
theorem caesuralaw05_PackBack.calls (k : Nat) (A0 : Option Addr) (c0 : Nat) (l0 : List Int) (a1_0 : Int) (a1_1 : Int) (A2 : Option Addr) (c2 : Nat) (l2 : List Bool) (r : Bool) (w : World) (hr0 : Kd.C (Kd.int .u8) w A0 l0.length l0) (hc0 : l0.length ≤ c0) (hr2 : Kd.C Kd.bool w A2 l2.length l2) (hc2 : l2.length ≤ c2) (h : caesuralaw05_PackBack.f k l0 a1_0 a1_1 l2 = some r) :
    Calls Try.prog 9 #[.slice A0 l0.length c0, .agg #[.int .u32 a1_0, .int .u32 a1_1], .slice A2 l2.length c2] w fun e w' => e = .returned (.bool r) ∧ Below w.heap.size w w' := by
  have hu49 := Try.underlying49
  have HR0 := Aside0.mk hr0
  have HC0 := Aside0.mk hc0
  clear hr0 hc0
  have HR2 := Aside0.mk hr2
  have HC2 := Aside0.mk hc2
  clear hr2 hc2
  have HB := Aside0.mk (Below.refl w.heap.size w)
  have H : (if (l0.length : Int) > 300 then (caesuralaw05_PackBack.j0 k l0 l2 a1_0 a1_1 true) else (caesuralaw05_PackBack.j0 k l0 l2 a1_0 a1_1 (decide ((l2.length : Int) > 300)))) = some r := h
  clear h
  have HC4 := Aside0.mk H
  clear H
  go_enter Try.func9, Try.ntmps9
  go_upto_region 2 with (first | ((with_reducible refine gate_dst (N := 4) rfl ?_); (try (refine gate_guard (by rfl) ?_; dsimp only)); refine box_event ?hg (N := 4) ?hd (cs := #[.int .u32 a1_0, .int .u32 a1_1]) (t := 49) ?hr ?_; (case hd => rfl); (case hg => rfl); (case hr => first | (go_simp; done) | (go_simp; rfl)); intro gb336 hg w5 hbox hb; have n0_ := Aside0.mk (below_step (by repeat (first | (with_reducible first | exact HB.out | apply below_alloc | apply pw_below_drewN | apply below_drew1) | exact HB.out)) hb); have n1_ := Aside0.mk (hbox); have n2_ := Aside0.mk ((by rw [hg]; exact (below_size (by repeat (first | (with_reducible first | exact HB.out | apply below_alloc | apply pw_below_drewN | apply below_drew1) | exact HB.out))) : w.heap.size ≤ gb336)); have n3_ := Aside0.mk ((by rw [hg]; exact (below_size (by repeat (first | (with_reducible first | exact HB.out | apply below_alloc | apply pw_below_drewN | apply below_drew1) | exact HB.out))) : w.heap.size ≤ gb336)); clear HB; have HB := n0_; have BK336 := n1_; have GW336 := n2_; have GE336 := n3_; clear n0_ n1_ n2_ n3_; clear hb hbox hg; have hcz6_0 : w5.cell? ⟨gb336, 0, none⟩ = some (.int .u32 a1_0) := (blk_cell BK336.out 0).trans rfl; have hcz6_1 : w5.cell? ⟨gb336, 1, none⟩ = some (.int .u32 a1_1) := (blk_cell BK336.out 1).trans rfl; have hfz6_0 := blk_frozen BK336.out 0; have hfz6_1 := blk_frozen BK336.out 1))
  repeat (go_quiet (first | ((with_reducible refine gate_dst (N := 4) rfl ?_); (try (refine gate_guard (by rfl) ?_; dsimp only)); refine box_event ?hg (N := 4) ?hd (cs := #[.int .u32 a1_0, .int .u32 a1_1]) (t := 49) ?hr ?_; (case hd => rfl); (case hg => rfl); (case hr => first | (go_simp; done) | (go_simp; rfl)); intro gb336 hg w5 hbox hb; have n0_ := Aside0.mk (below_step (by repeat (first | (with_reducible first | exact HB.out | apply below_alloc | apply pw_below_drewN | apply below_drew1) | exact HB.out)) hb); have n1_ := Aside0.mk (hbox); have n2_ := Aside0.mk ((by rw [hg]; exact (below_size (by repeat (first | (with_reducible first | exact HB.out | apply below_alloc | apply pw_below_drewN | apply below_drew1) | exact HB.out))) : w.heap.size ≤ gb336)); have n3_ := Aside0.mk ((by rw [hg]; exact (below_size (by repeat (first | (with_reducible first | exact HB.out | apply below_alloc | apply pw_below_drewN | apply below_drew1) | exact HB.out))) : w.heap.size ≤ gb336)); clear HB; have HB := n0_; have BK336 := n1_; have GW336 := n2_; have GE336 := n3_; clear n0_ n1_ n2_ n3_; clear hb hbox hg; have hcz6_0 : w5.cell? ⟨gb336, 0, none⟩ = some (.int .u32 a1_0) := (blk_cell BK336.out 0).trans rfl; have hcz6_1 : w5.cell? ⟨gb336, 1, none⟩ = some (.int .u32 a1_1) := (blk_cell BK336.out 1).trans rfl; have hfz6_0 := blk_frozen BK336.out 0; have hfz6_1 := blk_frozen BK336.out 1)); go_upto_region 2 with (first | ((with_reducible refine gate_dst (N := 4) rfl ?_); (try (refine gate_guard (by rfl) ?_; dsimp only)); refine box_event ?hg (N := 4) ?hd (cs := #[.int .u32 a1_0, .int .u32 a1_1]) (t := 49) ?hr ?_; (case hd => rfl); (case hg => rfl); (case hr => first | (go_simp; done) | (go_simp; rfl)); intro gb336 hg w5 hbox hb; have n0_ := Aside0.mk (below_step (by repeat (first | (with_reducible first | exact HB.out | apply below_alloc | apply pw_below_drewN | apply below_drew1) | exact HB.out)) hb); have n1_ := Aside0.mk (hbox); have n2_ := Aside0.mk ((by rw [hg]; exact (below_size (by repeat (first | (with_reducible first | exact HB.out | apply below_alloc | apply pw_below_drewN | apply below_drew1) | exact HB.out))) : w.heap.size ≤ gb336)); have n3_ := Aside0.mk ((by rw [hg]; exact (below_size (by repeat (first | (with_reducible first | exact HB.out | apply below_alloc | apply pw_below_drewN | apply below_drew1) | exact HB.out))) : w.heap.size ≤ gb336)); clear HB; have HB := n0_; have BK336 := n1_; have GW336 := n2_; have GE336 := n3_; clear n0_ n1_ n2_ n3_; clear hb hbox hg; have hcz6_0 : w5.cell? ⟨gb336, 0, none⟩ = some (.int .u32 a1_0) := (blk_cell BK336.out 0).trans rfl; have hcz6_1 : w5.cell? ⟨gb336, 1, none⟩ = some (.int .u32 a1_1) := (blk_cell BK336.out 1).trans rfl; have hfz6_0 := blk_frozen BK336.out 0; have hfz6_1 := blk_frozen BK336.out 1)))
  (try simp only [Act.put, List.setIfInBounds_toArray, List.set_cons_zero, List.set_cons_succ])
  go_cut [29] (fun v29 wc => ∃ (kq : Nat) (x29_3 : Bool), v29 = .bool x29_3 ∧ Aside0 (caesuralaw05_PackBack.j0 kq l0 l2 a1_0 a1_1 x29_3 = some r) ∧ Aside0 (kq ≤ k) ∧ Aside0 (wc.heap[gb336]? = some (.cells #[.int .u32 a1_0, .int .u32 a1_1] 49 (0, 0))) ∧ Aside0 (Below w.heap.size w wc))
  case first =>
    have H := HC4.out
    clear HC4
    by_cases c7 : (l0.length : Int) > 300
    · rw [if_pos c7] at H
      have c7b0 : decide (300 < (l0.length : Int)) = true := decide_eq_true c7
      have c7b1 : decide (300 < l0.length) = true := decide_eq_true (by omega)
      clear c7
      (first | rw [c7b0] | (simp only [i64_w, i32_w]; rw [c7b0]) | skip)
      have H' := Aside0.mk H
      clear H
      go_wp2
      repeat (go_quiet (fail); try go_wp2)
      go_meet
      case rel => exact ⟨_, (true), (by first | rfl | (simp; done) | (simp [*]; done)), H', ⟨by first | omega | exact Nat.le_refl _⟩, ⟨by (with_reducible repeat (first | refine blk_drewN ?_ _ | refine blk_drew ?_ | refine blk_alloc ?_ _)); exact BK336.out⟩, ⟨by repeat (first | (with_reducible first | exact HB.out | apply below_alloc | apply pw_below_drewN | apply below_drew1 | refine below_set ?_ GE336.out) | exact HB.out)⟩⟩
    · rw [if_neg c7] at H
      have c7b0 : decide (300 < (l0.length : Int)) = false := decide_eq_false c7
      have c7b1 : decide (300 < l0.length) = false := decide_eq_false (by omega)
      clear c7
      (first | rw [c7b0] | (simp only [i64_w, i32_w]; rw [c7b0]) | skip)
      have H' := Aside0.mk H
      clear H
      go_wp2
      repeat (go_quiet (fail); try go_wp2)
      go_meet
      case rel => exact ⟨_, (decide ((l2.length : Int) > 300)), (by first | rfl | (simp; done) | (simp [*]; done)), H', ⟨by first | omega | exact Nat.le_refl _⟩, ⟨by (with_reducible repeat (first | refine blk_drewN ?_ _ | refine blk_drew ?_ | refine blk_alloc ?_ _)); exact BK336.out⟩, ⟨by repeat (first | (with_reducible first | exact HB.out | apply below_alloc | apply pw_below_drewN | apply below_drew1 | refine below_set ?_ GE336.out) | exact HB.out)⟩⟩
  case rest =>
    clear HC4
    try clear c2
    try clear p2
    try clear c7
    try clear c7b0
    try clear c7b1
    try clear hcz6_0
    try clear hcz6_1
    try clear hfz6_0
    try clear hfz6_1
    obtain ⟨kq, x29_3, rfl, HA, HJ3, BK336, HB⟩ := hcut
    cases kq with
    | zero => exact absurd HA.out (by simp [caesuralaw05_PackBack.j0])
    | succ kj3 =>
      have H := HA.out
      clear HA
      simp only [caesuralaw05_PackBack.j0] at H
      by_cases c8 : x29_3 = true
      · subst c8
        have H1 : ((caesuralaw05_wakes.f kj3).bind fun t337 => (some t337)) = some r := by rw [if_pos rfl] at H; exact H
        clear H
        have H := H1
        clear H1
        replace H := Option.bind_eq_some_iff.mp H
        obtain ⟨t337, A90, H⟩ := H
        replace H : (some t337) = some r := H
        have A9 := Aside0.mk A90
        clear A90
        obtain rfl := Option.some.inj H
        go_wp2_with (first | (go_at_call 24; (with_reducible refine (caesuralaw05_wakes.calls kj3  t337 _ A9.out).mono ?_); rintro e w10 ⟨rfl, hb⟩; have n0_ := Aside0.mk (blk_below (g := gb336) (o := .cells #[.int .u32 a1_0, .int .u32 a1_1] 49 (0, 0)) (by (with_reducible repeat (first | refine blk_drewN ?_ _ | refine blk_drew ?_ | refine blk_alloc ?_ _)); exact BK336.out) hb); have n1_ := Aside0.mk (below_step (by repeat (first | (with_reducible first | exact HB.out | apply below_alloc | apply pw_below_drewN | apply below_drew1 | refine below_set ?_ GE336.out) | exact HB.out)) hb); clear BK336; clear HB; have BK336 := n0_; have HB := n1_; clear n0_ n1_; (try clear hb); (try clear hb2); (try clear hk); (try clear hi)))
        repeat (go_quiet (first | (go_at_call 24; (with_reducible refine (caesuralaw05_wakes.calls kj3  t337 _ A9.out).mono ?_); rintro e w10 ⟨rfl, hb⟩; have n0_ := Aside0.mk (blk_below (g := gb336) (o := .cells #[.int .u32 a1_0, .int .u32 a1_1] 49 (0, 0)) (by (with_reducible repeat (first | refine blk_drewN ?_ _ | refine blk_drew ?_ | refine blk_alloc ?_ _)); exact BK336.out) hb); have n1_ := Aside0.mk (below_step (by repeat (first | (with_reducible first | exact HB.out | apply below_alloc | apply pw_below_drewN | apply below_drew1 | refine below_set ?_ GE336.out) | exact HB.out)) hb); clear BK336; clear HB; have BK336 := n0_; have HB := n1_; clear n0_ n1_; (try clear hb); (try clear hb2); (try clear hk); (try clear hi))); try go_wp2_with (first | (go_at_call 24; (with_reducible refine (caesuralaw05_wakes.calls kj3  t337 _ A9.out).mono ?_); rintro e w10 ⟨rfl, hb⟩; have n0_ := Aside0.mk (blk_below (g := gb336) (o := .cells #[.int .u32 a1_0, .int .u32 a1_1] 49 (0, 0)) (by (with_reducible repeat (first | refine blk_drewN ?_ _ | refine blk_drew ?_ | refine blk_alloc ?_ _)); exact BK336.out) hb); have n1_ := Aside0.mk (below_step (by repeat (first | (with_reducible first | exact HB.out | apply below_alloc | apply pw_below_drewN | apply below_drew1 | refine below_set ?_ GE336.out) | exact HB.out)) hb); clear BK336; clear HB; have BK336 := n0_; have HB := n1_; clear n0_ n1_; (try clear hb); (try clear hb2); (try clear hk); (try clear hi))))
        go_ret
        exact ⟨by first | rfl | (simp [errW_none, errW_some] <;> rfl) | (simp [*, errW_none, errW_some] <;> rfl), by repeat (first | (with_reducible first | exact HB.out | apply below_alloc | apply pw_below_drewN | apply below_drew1 | refine below_set ?_ GE336.out) | exact HB.out)⟩
      · replace c8 := Bool.eq_false_iff.mpr c8
        subst c8
        have H1 : ((pack_Put.f l0 (wrap64 (a1_0)) (wrap64 (1 + (Int.tmod (wrap64 (a1_1)) 4)))).bind fun t338 => (if (t338.length : Int) = (wrap64 ((l0.length : Int) + (wrap64 (1 + (Int.tmod (wrap64 (a1_1)) 4))))) then (if 0 ≤ (l0.length : Int) then (if (l0.length : Int) ≤ (t338.length : Int) then ((caesurakeep_Bytes.f (t338.take ((l0.length : Int) : Int).toNat) l0).bind fun t345 => (caesuralaw05_PackBack.j1 kj3 l0 l2 a1_0 (wrap64 (1 + (Int.tmod (wrap64 (a1_1)) 4))) t338 (!t345))) else (none)) else (none)) else (caesuralaw05_PackBack.j1 kj3 l0 l2 a1_0 (wrap64 (1 + (Int.tmod (wrap64 (a1_1)) 4))) t338 true))) = some r := by rw [if_neg (show ¬ (false = true) by decide)] at H; exact H
        clear H
        have H := H1
        clear H1
        replace H := Option.bind_eq_some_iff.mp H
        obtain ⟨t338, A110, H⟩ := H
        replace H : (if (t338.length : Int) = (wrap64 ((l0.length : Int) + (wrap64 (1 + (Int.tmod (wrap64 (a1_1)) 4))))) then (if 0 ≤ (l0.length : Int) then (if (l0.length : Int) ≤ (t338.length : Int) then ((caesurakeep_Bytes.f (t338.take ((l0.length : Int) : Int).toNat) l0).bind fun t345 => (caesuralaw05_PackBack.j1 kj3 l0 l2 a1_0 (wrap64 (1 + (Int.tmod (wrap64 (a1_1)) 4))) t338 (!t345))) else (none)) else (none)) else (caesuralaw05_PackBack.j1 kj3 l0 l2 a1_0 (wrap64 (1 + (Int.tmod (wrap64 (a1_1)) 4))) t338 true)) = some r := H
        have A11 := Aside0.mk A110
        clear A110
        have HC12 := Aside0.mk H
        clear H
        go_upto_region 6 with (first | (go_at_call 30; (with_reducible refine (pack_Put.calls _ _ l0 (wrap64 (a1_0)) (wrap64 (1 + (Int.tmod (wrap64 (a1_1)) 4))) t338 _ ?side1 ?side2 A11.out).mono ?_); (case side1 => repeat (first | exact (Kd.C_below HR0.out HB.out) | (with_reducible refine Kd.C_alloc ?_ _) | (with_reducible refine Kd.C_drewN ?_ _) | (with_reducible refine Kd.C_drew ?_))); (case side2 => exact HC0.out); rintro e w13 ⟨v339, rfl, ho0, hb⟩; have n0_ := Aside0.mk (Kd.R_lower ho0 (below_size (by repeat (first | (with_reducible first | exact HB.out | apply below_alloc | apply pw_below_drewN | apply below_drew1 | refine below_set ?_ GE336.out) | exact HB.out)))); have n1_ := Aside0.mk (blk_below (g := gb336) (o := .cells #[.int .u32 a1_0, .int .u32 a1_1] 49 (0, 0)) (by (with_reducible repeat (first | refine blk_drewN ?_ _ | refine blk_drew ?_ | refine blk_alloc ?_ _)); exact BK336.out) hb); have n2_ := Aside0.mk (below_step (by repeat (first | (with_reducible first | exact HB.out | apply below_alloc | apply pw_below_drewN | apply below_drew1 | refine below_set ?_ GE336.out) | exact HB.out)) hb); clear BK336; clear HB; have HO340 := n0_; have BK336 := n1_; have HB := n2_; clear n0_ n1_ n2_; (try clear hb); (try clear hb2); (try clear hk); (try clear hi); (try clear ho0)))
        repeat (go_quiet (first | (go_at_call 30; (with_reducible refine (pack_Put.calls _ _ l0 (wrap64 (a1_0)) (wrap64 (1 + (Int.tmod (wrap64 (a1_1)) 4))) t338 _ ?side1 ?side2 A11.out).mono ?_); (case side1 => repeat (first | exact (Kd.C_below HR0.out HB.out) | (with_reducible refine Kd.C_alloc ?_ _) | (with_reducible refine Kd.C_drewN ?_ _) | (with_reducible refine Kd.C_drew ?_))); (case side2 => exact HC0.out); rintro e w13 ⟨v339, rfl, ho0, hb⟩; have n0_ := Aside0.mk (Kd.R_lower ho0 (below_size (by repeat (first | (with_reducible first | exact HB.out | apply below_alloc | apply pw_below_drewN | apply below_drew1 | refine below_set ?_ GE336.out) | exact HB.out)))); have n1_ := Aside0.mk (blk_below (g := gb336) (o := .cells #[.int .u32 a1_0, .int .u32 a1_1] 49 (0, 0)) (by (with_reducible repeat (first | refine blk_drewN ?_ _ | refine blk_drew ?_ | refine blk_alloc ?_ _)); exact BK336.out) hb); have n2_ := Aside0.mk (below_step (by repeat (first | (with_reducible first | exact HB.out | apply below_alloc | apply pw_below_drewN | apply below_drew1 | refine below_set ?_ GE336.out) | exact HB.out)) hb); clear BK336; clear HB; have HO340 := n0_; have BK336 := n1_; have HB := n2_; clear n0_ n1_ n2_; (try clear hb); (try clear hb2); (try clear hk); (try clear hi); (try clear ho0))); go_upto_region 6 with (first | (go_at_call 30; (with_reducible refine (pack_Put.calls _ _ l0 (wrap64 (a1_0)) (wrap64 (1 + (Int.tmod (wrap64 (a1_1)) 4))) t338 _ ?side1 ?side2 A11.out).mono ?_); (case side1 => repeat (first | exact (Kd.C_below HR0.out HB.out) | (with_reducible refine Kd.C_alloc ?_ _) | (with_reducible refine Kd.C_drewN ?_ _) | (with_reducible refine Kd.C_drew ?_))); (case side2 => exact HC0.out); rintro e w13 ⟨v339, rfl, ho0, hb⟩; have n0_ := Aside0.mk (Kd.R_lower ho0 (below_size (by repeat (first | (with_reducible first | exact HB.out | apply below_alloc | apply pw_below_drewN | apply below_drew1 | refine below_set ?_ GE336.out) | exact HB.out)))); have n1_ := Aside0.mk (blk_below (g := gb336) (o := .cells #[.int .u32 a1_0, .int .u32 a1_1] 49 (0, 0)) (by (with_reducible repeat (first | refine blk_drewN ?_ _ | refine blk_drew ?_ | refine blk_alloc ?_ _)); exact BK336.out) hb); have n2_ := Aside0.mk (below_step (by repeat (first | (with_reducible first | exact HB.out | apply below_alloc | apply pw_below_drewN | apply below_drew1 | refine below_set ?_ GE336.out) | exact HB.out)) hb); clear BK336; clear HB; have HO340 := n0_; have BK336 := n1_; have HB := n2_; clear n0_ n1_ n2_; (try clear hb); (try clear hb2); (try clear hk); (try clear hi); (try clear ho0))))
        (try simp only [Act.put, List.setIfInBounds_toArray, List.set_cons_zero, List.set_cons_succ])
        go_cut [55] (fun v55 wc => ∃ (kq : Nat) (x55_11 : Bool), v55 = .bool x55_11 ∧ Aside0 (caesuralaw05_PackBack.j1 kq l0 l2 a1_0 (wrap64 (1 + (Int.tmod (wrap64 (a1_1)) 4))) t338 x55_11 = some r) ∧ Aside0 (kq ≤ kj3) ∧ Aside0 (Kd.R (Kd.int .u8) 5 wc w.heap.size (fun _ => True) v339 t338) ∧ Aside0 (wc.heap[gb336]? = some (.cells #[.int .u32 a1_0, .int .u32 a1_1] 49 (0, 0))) ∧ Aside0 (Below w.heap.size w wc))
        case first =>
          have H := HC12.out
          clear HC12
          by_cases c14 : (t338.length : Int) = (wrap64 ((l0.length : Int) + (wrap64 (1 + (Int.tmod (wrap64 (a1_1)) 4)))))
          · rw [if_pos c14] at H
            have c14b0 : ((t338.length : Int) == (wrap64 ((l0.length : Int) + (wrap64 (1 + (Int.tmod (wrap64 (a1_1)) 4)))))) = true := beq_iff_eq.mpr c14
            have c14b1 : ((t338.length : Int) != (wrap64 ((l0.length : Int) + (wrap64 (1 + (Int.tmod (wrap64 (a1_1)) 4)))))) = false := bne_eq_false_iff_eq.mpr c14
            clear c14
            (first | rw [c14b0] | (simp only [i64_w, i32_w]; rw [c14b0]) | skip)
            by_cases c15 : 0 ≤ (l0.length : Int)
            · rw [if_pos c15] at H
              have c15b0 := eq_true c15
              have c15b1 : decide (0 ≤ (l0.length : Int)) = true := decide_eq_true c15
              clear c15
              by_cases c16 : (l0.length : Int) ≤ (t338.length : Int)
              · rw [if_pos c16] at H
                have c16b0 := eq_true c16
                have c16b1 : decide ((l0.length : Int) ≤ (t338.length : Int)) = true := decide_eq_true c16
                clear c16
                obtain ⟨y341, hy341⟩ : ∃ y_ : List Int, y_ = (t338.take ((l0.length : Int) : Int).toNat) := ⟨_, rfl⟩
                replace H : ((caesurakeep_Bytes.f y341 l0).bind fun t345 => (caesuralaw05_PackBack.j1 kj3 l0 l2 a1_0 (wrap64 (1 + (Int.tmod (wrap64 (a1_1)) 4))) t338 (!t345))) = some r := by first | (rw [hy341]; with_reducible exact H) | (have H2_ := (Option.bind_some _ _).symm.trans H; rw [hy341]; with_reducible exact H2_) | (have H2_ := (Option.bind_some _ _).symm.trans H; with_reducible exact H2_) | with_reducible exact H | (rw [hy341]; exact H) | exact H
                have Ny341 := Aside0.mk hy341
                clear hy341
                replace H := Option.bind_eq_some_iff.mp H
                obtain ⟨t345, A170, H⟩ := H
                replace H : (caesuralaw05_PackBack.j1 kj3 l0 l2 a1_0 (wrap64 (1 + (Int.tmod (wrap64 (a1_1)) 4))) t338 (!t345)) = some r := H
                have A17 := Aside0.mk A170
                clear A170
                have H' := Aside0.mk H
                clear H
                obtain ⟨Ao18, co18, eo18⟩ := Kd.R_slice HO340.out
                subst eo18
                have q19 : ((l0.length : Int) : Int) ≤ ((t338.length : Int) : Int) := of_decide_eq_true (by first | (with_reducible assumption) | assumption)
                obtain ⟨i019, hi019, _, hsz19, _⟩ := info_parts info5
                have hroom19 : t338.length ≤ co18 := (Kd.R_reads' HO340.out).2.1
                have hC19 : Kd.C (Kd.int .u8) _ Ao18 t338.length t338 := (Kd.R_reads' HO340.out).2.2
                have hcut19 := cut_to (P := Try.prog) 34 5 .i64 Try.underlying34 hi019 Ao18 t338.length co18 (l0.length : Int) (of_decide_eq_true (by first | (with_reducible assumption) | assumption)) q19 hroom19
                have hr19 := Kd.C_take (m := ((l0.length : Int) : Int).toNat) hC19 (by omega)
                have hy19 : y341.length = ((l0.length : Int) : Int).toNat := (by rw [Ny341.out, List.length_take]; omega)
                rw [← Ny341.out] at hr19
                rw [← hy19] at hcut19
                have HR344 := Aside0.mk hr19
                have HC344 := Aside0.mk (show y341.length ≤ co18 from by omega)
                clear hr19 hC19 hroom19 hi019 hsz19
                have KY19 := Aside0.mk hy19
                clear hy19
                have KL19 := Aside0.mk (show ((l0.length : Int) : Int).toNat ≤ t338.length from by omega)
                replace q19 := eq_true q19
                go_wp2_with (first | (go_at_call 29; (with_reducible refine (caesurakeep_Bytes.calls _ _ y341 _ _ l0 t345 _ ?side1 ?side2 ?side3 ?side4 A17.out).mono ?_); (case side1 => repeat (first | exact (by repeat (first | (with_reducible exact HR344.out) | (with_reducible refine Kd.C_alloc ?_ _) | (with_reducible refine Kd.C_drewN ?_ _) | (with_reducible refine Kd.C_drew ?_) | exact HR344.out)) | (with_reducible refine Kd.C_alloc ?_ _) | (with_reducible refine Kd.C_drewN ?_ _) | (with_reducible refine Kd.C_drew ?_))); (case side2 => exact HC344.out); (case side3 => repeat (first | exact (Kd.C_below HR0.out HB.out) | (with_reducible refine Kd.C_alloc ?_ _) | (with_reducible refine Kd.C_drewN ?_ _) | (with_reducible refine Kd.C_drew ?_))); (case side4 => exact HC0.out); rintro e w' ⟨rfl, ⟨nd, rfl⟩⟩; (try first | exact ⟨rfl, _, World.drewN_drewN _ _ _⟩ | exact ⟨rfl, _, Eq.trans (World.drewN_drewN _ _ _) (congrArg (World.drewN _) (Nat.add_assoc _ _ _))⟩)))
                repeat (go_quiet (first | (go_at_call 29; (with_reducible refine (caesurakeep_Bytes.calls _ _ y341 _ _ l0 t345 _ ?side1 ?side2 ?side3 ?side4 A17.out).mono ?_); (case side1 => repeat (first | exact (by repeat (first | (with_reducible exact HR344.out) | (with_reducible refine Kd.C_alloc ?_ _) | (with_reducible refine Kd.C_drewN ?_ _) | (with_reducible refine Kd.C_drew ?_) | exact HR344.out)) | (with_reducible refine Kd.C_alloc ?_ _) | (with_reducible refine Kd.C_drewN ?_ _) | (with_reducible refine Kd.C_drew ?_))); (case side2 => exact HC344.out); (case side3 => repeat (first | exact (Kd.C_below HR0.out HB.out) | (with_reducible refine Kd.C_alloc ?_ _) | (with_reducible refine Kd.C_drewN ?_ _) | (with_reducible refine Kd.C_drew ?_))); (case side4 => exact HC0.out); rintro e w' ⟨rfl, ⟨nd, rfl⟩⟩; (try first | exact ⟨rfl, _, World.drewN_drewN _ _ _⟩ | exact ⟨rfl, _, Eq.trans (World.drewN_drewN _ _ _) (congrArg (World.drewN _) (Nat.add_assoc _ _ _))⟩))); try go_wp2_with (first | (go_at_call 29; (with_reducible refine (caesurakeep_Bytes.calls _ _ y341 _ _ l0 t345 _ ?side1 ?side2 ?side3 ?side4 A17.out).mono ?_); (case side1 => repeat (first | exact (by repeat (first | (with_reducible exact HR344.out) | (with_reducible refine Kd.C_alloc ?_ _) | (with_reducible refine Kd.C_drewN ?_ _) | (with_reducible refine Kd.C_drew ?_) | exact HR344.out)) | (with_reducible refine Kd.C_alloc ?_ _) | (with_reducible refine Kd.C_drewN ?_ _) | (with_reducible refine Kd.C_drew ?_))); (case side2 => exact HC344.out); (case side3 => repeat (first | exact (Kd.C_below HR0.out HB.out) | (with_reducible refine Kd.C_alloc ?_ _) | (with_reducible refine Kd.C_drewN ?_ _) | (with_reducible refine Kd.C_drew ?_))); (case side4 => exact HC0.out); rintro e w' ⟨rfl, ⟨nd, rfl⟩⟩; (try first | exact ⟨rfl, _, World.drewN_drewN _ _ _⟩ | exact ⟨rfl, _, Eq.trans (World.drewN_drewN _ _ _) (congrArg (World.drewN _) (Nat.add_assoc _ _ _))⟩))))
                go_meet
                case rel => exact ⟨_, (!t345), (by first | rfl | (simp; done) | (simp [*]; done)), H', ⟨by have := HJ3.out; first | omega | exact Nat.le_refl _⟩, ⟨by (with_reducible repeat (first | apply Kd.R_alloc | apply Kd.R_drewN | apply Kd.R_drew)); exact HO340.out⟩, ⟨by (with_reducible repeat (first | refine blk_drewN ?_ _ | refine blk_drew ?_ | refine blk_alloc ?_ _)); exact BK336.out⟩, ⟨by repeat (first | (with_reducible first | exact HB.out | apply below_alloc | apply pw_below_drewN | apply below_drew1 | refine below_set ?_ GE336.out) | exact HB.out)⟩⟩
              · rw [if_neg c16] at H
                exact absurd H (by simp)
            · rw [if_neg c15] at H
              exact absurd H (by simp)
          · rw [if_neg c14] at H
            have c14b0 : ((t338.length : Int) == (wrap64 ((l0.length : Int) + (wrap64 (1 + (Int.tmod (wrap64 (a1_1)) 4)))))) = false := beq_eq_false_iff_ne.mpr c14
            have c14b1 : ((t338.length : Int) != (wrap64 ((l0.length : Int) + (wrap64 (1 + (Int.tmod (wrap64 (a1_1)) 4)))))) = true := bne_iff_ne.mpr c14
            (first | rw [c14b0] | (simp only [i64_w, i32_w]; rw [c14b0]) | skip)
            have H' := Aside0.mk H
            clear H
            obtain ⟨Ao20, co20, eo20⟩ := Kd.R_slice HO340.out
            subst eo20
            go_wp2
            repeat (go_quiet (fail); try go_wp2)
            go_meet
            case rel => exact ⟨_, (true), (by first | rfl | (simp; done) | (simp [*]; done)), H', ⟨by have := HJ3.out; first | omega | exact Nat.le_refl _⟩, ⟨by (with_reducible repeat (first | apply Kd.R_alloc | apply Kd.R_drewN | apply Kd.R_drew)); exact HO340.out⟩, ⟨by (with_reducible repeat (first | refine blk_drewN ?_ _ | refine blk_drew ?_ | refine blk_alloc ?_ _)); exact BK336.out⟩, ⟨by repeat (first | (with_reducible first | exact HB.out | apply below_alloc | apply pw_below_drewN | apply below_drew1 | refine below_set ?_ GE336.out) | exact HB.out)⟩⟩
        case rest =>
          clear HC12
          try clear c1
          try clear q1
          try clear c2
          try clear p2
          try clear p6
          try clear c7
          try clear c7b0
          try clear c7b1
          try clear c8
          try clear c9
          try clear c14
          try clear c14b0
          try clear c14b1
          try clear c15
          try clear c15b0
          try clear c15b1
          try clear c16
          try clear c16b0
          try clear c16b1
          try clear q19
          try clear hcz6_0
          try clear hcz6_1
          try clear hfz6_0
          try clear hfz6_1
          try clear p2
          try clear q19
          obtain ⟨kq, x55_11, rfl, HA, HJ11, HO_10, BK336, HB⟩ := hcut
          cases kq with
          | zero => exact absurd HA.out (by simp [caesuralaw05_PackBack.j1])
          | succ kj11 =>
            have H := HA.out
            clear HA
            simp only [caesuralaw05_PackBack.j1] at H
            by_cases c21 : x55_11 = true
            · subst c21
              have H1 : (none) = some r := by rw [if_pos rfl] at H; exact H
              clear H
              have H := H1
              clear H1
              exact absurd H (by simp)
            · replace c21 := Bool.eq_false_iff.mpr c21
              subst c21
              have H1 : ((pack_Get.f kj11 t338 (l0.length : Int) (wrap64 (1 + (Int.tmod (wrap64 (a1_1)) 4)))).bind fun bt346 => (if bt346.2 = true then (if 0 ≤ (IntKind.u64.wrap (wrap64 (8 * (wrap64 (1 + (Int.tmod (wrap64 (a1_1)) 4)))))) then (caesuralaw05_PackBack.j2 kj11 l2 (bt346.1 != (Go.bits .and .i64 (wrap64 (a1_0)) (wrap64 ((shl .i64 1 (IntKind.u64.wrap (wrap64 (8 * (wrap64 (1 + (Int.tmod (wrap64 (a1_1)) 4))))))) - 1))))) else (none)) else (caesuralaw05_PackBack.j2 kj11 l2 true))) = some r := by rw [if_neg (show ¬ (false = true) by decide)] at H; exact H
              clear H
              have H := H1
              clear H1
              replace H := Option.bind_eq_some_iff.mp H
              obtain ⟨⟨t346, t347⟩, A220, H⟩ := H
              replace H : (if t347 = true then (if 0 ≤ (IntKind.u64.wrap (wrap64 (8 * (wrap64 (1 + (Int.tmod (wrap64 (a1_1)) 4)))))) then (caesuralaw05_PackBack.j2 kj11 l2 (t346 != (Go.bits .and .i64 (wrap64 (a1_0)) (wrap64 ((shl .i64 1 (IntKind.u64.wrap (wrap64 (8 * (wrap64 (1 + (Int.tmod (wrap64 (a1_1)) 4))))))) - 1))))) else (none)) else (caesuralaw05_PackBack.j2 kj11 l2 true)) = some r := H
              have A22 := Aside0.mk A220
              clear A220
              have HC23 := Aside0.mk H
              clear H
              obtain ⟨Ao24, co24, eo24⟩ := Kd.R_slice HO_10.out
              subst eo24
              go_upto_region 9 with (first | (go_at_call 25; (with_reducible refine (pack_Get.calls kj11 _ _ t338 (l0.length : Int) (wrap64 (1 + (Int.tmod (wrap64 (a1_1)) 4))) t346 t347 _ ?side1 ?side2 A22.out).mono ?_); (case side1 => repeat (first | exact (Kd.R_reads' HO_10.out).2.2 | (with_reducible refine Kd.C_alloc ?_ _) | (with_reducible refine Kd.C_drewN ?_ _) | (with_reducible refine Kd.C_drew ?_))); (case side2 => exact (Kd.R_reads' HO_10.out).2.1); rintro e w' ⟨rfl, ⟨nd, rfl⟩⟩; (try first | exact ⟨rfl, _, World.drewN_drewN _ _ _⟩ | exact ⟨rfl, _, Eq.trans (World.drewN_drewN _ _ _) (congrArg (World.drewN _) (Nat.add_assoc _ _ _))⟩)))
              repeat (go_quiet (first | (go_at_call 25; (with_reducible refine (pack_Get.calls kj11 _ _ t338 (l0.length : Int) (wrap64 (1 + (Int.tmod (wrap64 (a1_1)) 4))) t346 t347 _ ?side1 ?side2 A22.out).mono ?_); (case side1 => repeat (first | exact (Kd.R_reads' HO_10.out).2.2 | (with_reducible refine Kd.C_alloc ?_ _) | (with_reducible refine Kd.C_drewN ?_ _) | (with_reducible refine Kd.C_drew ?_))); (case side2 => exact (Kd.R_reads' HO_10.out).2.1); rintro e w' ⟨rfl, ⟨nd, rfl⟩⟩; (try first | exact ⟨rfl, _, World.drewN_drewN _ _ _⟩ | exact ⟨rfl, _, Eq.trans (World.drewN_drewN _ _ _) (congrArg (World.drewN _) (Nat.add_assoc _ _ _))⟩))); go_upto_region 9 with (first | (go_at_call 25; (with_reducible refine (pack_Get.calls kj11 _ _ t338 (l0.length : Int) (wrap64 (1 + (Int.tmod (wrap64 (a1_1)) 4))) t346 t347 _ ?side1 ?side2 A22.out).mono ?_); (case side1 => repeat (first | exact (Kd.R_reads' HO_10.out).2.2 | (with_reducible refine Kd.C_alloc ?_ _) | (with_reducible refine Kd.C_drewN ?_ _) | (with_reducible refine Kd.C_drew ?_))); (case side2 => exact (Kd.R_reads' HO_10.out).2.1); rintro e w' ⟨rfl, ⟨nd, rfl⟩⟩; (try first | exact ⟨rfl, _, World.drewN_drewN _ _ _⟩ | exact ⟨rfl, _, Eq.trans (World.drewN_drewN _ _ _) (congrArg (World.drewN _) (Nat.add_assoc _ _ _))⟩))))
              (try simp only [Act.put, List.setIfInBounds_toArray, List.set_cons_zero, List.set_cons_succ])
              go_cut [77] (fun v77 wc => ∃ (kq : Nat) (x77_22 : Bool), v77 = .bool x77_22 ∧ Aside0 (caesuralaw05_PackBack.j2 kq l2 x77_22 = some r) ∧ Aside0 (kq ≤ kj11) ∧ Aside0 (wc.heap[gb336]? = some (.cells #[.int .u32 a1_0, .int .u32 a1_1] 49 (0, 0))) ∧ Aside0 (Below w.heap.size w wc))
              case first =>
                have H := HC23.out
                clear HC23
                by_cases c25 : t347 = true
                · subst c25
                  have H1 : (if 0 ≤ (IntKind.u64.wrap (wrap64 (8 * (wrap64 (1 + (Int.tmod (wrap64 (a1_1)) 4)))))) then (caesuralaw05_PackBack.j2 kj11 l2 (t346 != (Go.bits .and .i64 (wrap64 (a1_0)) (wrap64 ((shl .i64 1 (IntKind.u64.wrap (wrap64 (8 * (wrap64 (1 + (Int.tmod (wrap64 (a1_1)) 4))))))) - 1))))) else (none)) = some r := by rw [if_pos rfl] at H; exact H
                  clear H
                  have H := H1
                  clear H1
                  obtain ⟨ji26, hji26⟩ : ∃ j_ : Int, (IntKind.u64.wrap (wrap64 (8 * (wrap64 (1 + (Int.tmod (wrap64 (a1_1)) 4)))))) = j_ := ⟨_, rfl⟩
                  replace H : (if 0 ≤ (ji26) then (caesuralaw05_PackBack.j2 kj11 l2 (t346 != (Go.bits .and .i64 (wrap64 (a1_0)) (wrap64 ((shl .i64 1 (ji26)) - 1))))) else (none)) = some r := by first | (rw [hji26] at H; exact H) | (simp only [hji26] at H ⊢; exact H)
                  by_cases c27 : 0 ≤ (ji26)
                  · rw [if_pos c27] at H
                    have c27b0 := eq_true c27
                    have c27b1 : decide (0 ≤ (ji26)) = true := decide_eq_true c27
                    clear c27
                    obtain ⟨ji28, hji28⟩ : ∃ j_ : Int, (shl .i64 1 (ji26)) = j_ := ⟨_, rfl⟩
                    replace H : (caesuralaw05_PackBack.j2 kj11 l2 (t346 != (Go.bits .and .i64 (wrap64 (a1_0)) (wrap64 ((ji28) - 1))))) = some r := by first | (rw [hji28] at H; exact H) | (simp only [hji28] at H ⊢; exact H)
                    have hji28_ : (IntKind.i64.wrap (1 * 2 ^ min (ji26).toNat 64)) = ji28 := hji28
                    have hji28z : (ji26) ≤ 64 → (IntKind.i64.wrap (1 * 2 ^ (ji26).toNat)) = ji28 := shl_small hji28
                    have hji28u : (IntKind.i64.wrap (2 ^ min (ji26).toNat 64)) = ji28 := by have h_ := hji28_; rw [Int.one_mul] at h_; exact h_
                    have hji28v : (ji26) ≤ 64 → (IntKind.i64.wrap (2 ^ (ji26).toNat)) = ji28 := fun hle_ => by have h_ := hji28z hle_; rw [Int.one_mul] at h_; exact h_
                    have hji28y : (wrap64 (1 * 2 ^ min (ji26).toNat 64)) = ji28 := (i64_w _).symm.trans hji28_
                    have hji28x : (ji26) ≤ 64 → (wrap64 (1 * 2 ^ (ji26).toNat)) = ji28 := fun h_ => (i64_w _).symm.trans (hji28z h_)
                    have H' := Aside0.mk H
                    clear H
                    go_wp2
                    repeat (go_quiet (fail); try go_wp2)
                    go_meet
                    case rel => exact ⟨_, ((t346 != (Go.bits .and .i64 (wrap64 (a1_0)) (wrap64 ((ji28) - 1))))), (by first | rfl | (simp; done) | (simp only [← hji28] <;> (first | rfl | simp)) | (simp [*]; done)), H', ⟨by have := HJ3.out; have := HJ11.out; first | omega | exact Nat.le_refl _⟩, ⟨by (with_reducible repeat (first | refine blk_drewN ?_ _ | refine blk_drew ?_ | refine blk_alloc ?_ _)); exact BK336.out⟩, ⟨by repeat (first | (with_reducible first | exact HB.out | apply below_alloc | apply pw_below_drewN | apply below_drew1 | refine below_set ?_ GE336.out) | exact HB.out)⟩⟩
                  · rw [if_neg c27] at H
                    exact absurd H (by simp)
                · replace c25 := Bool.eq_false_iff.mpr c25
                  subst c25
                  have H1 : (caesuralaw05_PackBack.j2 kj11 l2 true) = some r := by rw [if_neg (show ¬ (false = true) by decide)] at H; exact H
                  clear H
                  have H := H1
                  clear H1
                  have H' := Aside0.mk H
                  clear H
                  go_wp2
                  repeat (go_quiet (fail); try go_wp2)
                  go_meet
                  case rel => exact ⟨_, (true), (by first | rfl | (simp; done) | (simp [*]; done)), H', ⟨by have := HJ3.out; have := HJ11.out; first | omega | exact Nat.le_refl _⟩, ⟨by (with_reducible repeat (first | refine blk_drewN ?_ _ | refine blk_drew ?_ | refine blk_alloc ?_ _)); exact BK336.out⟩, ⟨by repeat (first | (with_reducible first | exact HB.out | apply below_alloc | apply pw_below_drewN | apply below_drew1 | refine below_set ?_ GE336.out) | exact HB.out)⟩⟩
              case rest =>
                clear HC23
                try clear c1
                try clear q1
                try clear c2
                try clear p2
                try clear p6
                try clear c7
                try clear c7b0
                try clear c7b1
                try clear c8
                try clear c9
                try clear c14
                try clear c14b0
                try clear c14b1
                try clear c15
                try clear c15b0
                try clear c15b1
                try clear c16
                try clear c16b0
                try clear c16b1
                try clear q19
                try clear c21
                try clear c25
                try clear c27
                try clear c27b0
                try clear c27b1
                try clear hcz6_0
                try clear hcz6_1
                try clear hfz6_0
                try clear hfz6_1
                try clear p2
                try clear p6
                try clear q1
                try clear q19
                obtain ⟨kq, x77_22, rfl, HA, HJ22, BK336, HB⟩ := hcut
                cases kq with
                | zero => exact absurd HA.out (by simp [caesuralaw05_PackBack.j2])
                | succ kj22 =>
                  have H := HA.out
                  clear HA
                  simp only [caesuralaw05_PackBack.j2] at H
                  by_cases c29 : x77_22 = true
                  · subst c29
                    have H1 : (none) = some r := by rw [if_pos rfl] at H; exact H
                    clear H
                    have H := H1
                    clear H1
                    exact absurd H (by simp)
                  · replace c29 := Bool.eq_false_iff.mpr c29
                    subst c29
                    have H1 : ((pack_Bits.f kj22 l2).bind fun t348 => ((pack_Unbits.f kj22 t348 (l2.length : Int)).bind fun bt351 => (if bt351.2 = true then ((caesurakeep_Bools.f kj22 bt351.1 l2).bind fun t355 => (if t355 = true then (caesuralaw05_PackBack.j3 kj22 l2 t348 ((t348.length : Int) != (wrap64 (Int.tdiv (wrap64 ((l2.length : Int) + 7)) 8)))) else (caesuralaw05_PackBack.j3 kj22 l2 t348 true))) else (caesuralaw05_PackBack.j3 kj22 l2 t348 true)))) = some r := by rw [if_neg (show ¬ (false = true) by decide)] at H; exact H
                    clear H
                    have H := H1
                    clear H1
                    replace H := Option.bind_eq_some_iff.mp H
                    obtain ⟨t348, A300, H⟩ := H
                    replace H : ((pack_Unbits.f kj22 t348 (l2.length : Int)).bind fun bt351 => (if bt351.2 = true then ((caesurakeep_Bools.f kj22 bt351.1 l2).bind fun t355 => (if t355 = true then (caesuralaw05_PackBack.j3 kj22 l2 t348 ((t348.length : Int) != (wrap64 (Int.tdiv (wrap64 ((l2.length : Int) + 7)) 8)))) else (caesuralaw05_PackBack.j3 kj22 l2 t348 true))) else (caesuralaw05_PackBack.j3 kj22 l2 t348 true))) = some r := H
                    have A30 := Aside0.mk A300
                    clear A300
                    replace H := Option.bind_eq_some_iff.mp H
                    obtain ⟨⟨t351, t352⟩, A310, H⟩ := H
                    replace H : (if t352 = true then ((caesurakeep_Bools.f kj22 t351 l2).bind fun t355 => (if t355 = true then (caesuralaw05_PackBack.j3 kj22 l2 t348 ((t348.length : Int) != (wrap64 (Int.tdiv (wrap64 ((l2.length : Int) + 7)) 8)))) else (caesuralaw05_PackBack.j3 kj22 l2 t348 true))) else (caesuralaw05_PackBack.j3 kj22 l2 t348 true)) = some r := H
                    have A31 := Aside0.mk A310
                    clear A310
                    have HC32 := Aside0.mk H
                    clear H
                    go_upto_region 13 with (first | (go_at_call 34; (with_reducible refine (pack_Bits.calls kj22 _ _ l2 t348 _ ?side1 ?side2 A30.out).mono ?_); (case side1 => repeat (first | exact (Kd.C_below HR2.out HB.out) | (with_reducible refine Kd.C_alloc ?_ _) | (with_reducible refine Kd.C_drewN ?_ _) | (with_reducible refine Kd.C_drew ?_))); (case side2 => exact HC2.out); rintro e w33 ⟨v349, rfl, ho0, hb⟩; have n0_ := Aside0.mk (Kd.R_lower ho0 (below_size (by repeat (first | (with_reducible first | exact HB.out | apply below_alloc | apply pw_below_drewN | apply below_drew1 | refine below_set ?_ GE336.out) | exact HB.out)))); have n1_ := Aside0.mk (blk_below (g := gb336) (o := .cells #[.int .u32 a1_0, .int .u32 a1_1] 49 (0, 0)) (by (with_reducible repeat (first | refine blk_drewN ?_ _ | refine blk_drew ?_ | refine blk_alloc ?_ _)); exact BK336.out) hb); have n2_ := Aside0.mk (below_step (by repeat (first | (with_reducible first | exact HB.out | apply below_alloc | apply pw_below_drewN | apply below_drew1 | refine below_set ?_ GE336.out) | exact HB.out)) hb); clear BK336; clear HB; have HO350 := n0_; have BK336 := n1_; have HB := n2_; clear n0_ n1_ n2_; (try clear hb); (try clear hb2); (try clear hk); (try clear hi); (try clear ho0); obtain ⟨Ao34, co34, eo34⟩ := Kd.R_slice HO350.out; subst eo34) | (go_at_call 27; (with_reducible refine (pack_Unbits.calls kj22 _ _ t348 (l2.length : Int) t351 t352 _ ?side1 ?side2 A31.out).mono ?_); (case side1 => repeat (first | exact (Kd.R_reads' HO350.out).2.2 | (with_reducible refine Kd.C_alloc ?_ _) | (with_reducible refine Kd.C_drewN ?_ _) | (with_reducible refine Kd.C_drew ?_))); (case side2 => exact (Kd.R_reads' HO350.out).2.1); rintro e w35 ⟨v353, rfl, ho0, hb⟩; have n0_ := Aside0.mk (Kd.R_below (by (with_reducible repeat (first | apply Kd.R_alloc | apply Kd.R_drewN | apply Kd.R_drew)); exact HO350.out) hb); have n1_ := Aside0.mk (Kd.R_lower ho0 (below_size (by repeat (first | (with_reducible first | exact HB.out | apply below_alloc | apply pw_below_drewN | apply below_drew1 | refine below_set ?_ GE336.out) | exact HB.out)))); have n2_ := Aside0.mk (blk_below (g := gb336) (o := .cells #[.int .u32 a1_0, .int .u32 a1_1] 49 (0, 0)) (by (with_reducible repeat (first | refine blk_drewN ?_ _ | refine blk_drew ?_ | refine blk_alloc ?_ _)); exact BK336.out) hb); have n3_ := Aside0.mk (below_step (by repeat (first | (with_reducible first | exact HB.out | apply below_alloc | apply pw_below_drewN | apply below_drew1 | refine below_set ?_ GE336.out) | exact HB.out)) hb); clear HO350; clear BK336; clear HB; have HO350 := n0_; have HO354 := n1_; have BK336 := n2_; have HB := n3_; clear n0_ n1_ n2_ n3_; (try clear hb); (try clear hb2); (try clear hk); (try clear hi); (try clear ho0)))
                    repeat (go_quiet (first | (go_at_call 34; (with_reducible refine (pack_Bits.calls kj22 _ _ l2 t348 _ ?side1 ?side2 A30.out).mono ?_); (case side1 => repeat (first | exact (Kd.C_below HR2.out HB.out) | (with_reducible refine Kd.C_alloc ?_ _) | (with_reducible refine Kd.C_drewN ?_ _) | (with_reducible refine Kd.C_drew ?_))); (case side2 => exact HC2.out); rintro e w33 ⟨v349, rfl, ho0, hb⟩; have n0_ := Aside0.mk (Kd.R_lower ho0 (below_size (by repeat (first | (with_reducible first | exact HB.out | apply below_alloc | apply pw_below_drewN | apply below_drew1 | refine below_set ?_ GE336.out) | exact HB.out)))); have n1_ := Aside0.mk (blk_below (g := gb336) (o := .cells #[.int .u32 a1_0, .int .u32 a1_1] 49 (0, 0)) (by (with_reducible repeat (first | refine blk_drewN ?_ _ | refine blk_drew ?_ | refine blk_alloc ?_ _)); exact BK336.out) hb); have n2_ := Aside0.mk (below_step (by repeat (first | (with_reducible first | exact HB.out | apply below_alloc | apply pw_below_drewN | apply below_drew1 | refine below_set ?_ GE336.out) | exact HB.out)) hb); clear BK336; clear HB; have HO350 := n0_; have BK336 := n1_; have HB := n2_; clear n0_ n1_ n2_; (try clear hb); (try clear hb2); (try clear hk); (try clear hi); (try clear ho0); obtain ⟨Ao34, co34, eo34⟩ := Kd.R_slice HO350.out; subst eo34) | (go_at_call 27; (with_reducible refine (pack_Unbits.calls kj22 _ _ t348 (l2.length : Int) t351 t352 _ ?side1 ?side2 A31.out).mono ?_); (case side1 => repeat (first | exact (Kd.R_reads' HO350.out).2.2 | (with_reducible refine Kd.C_alloc ?_ _) | (with_reducible refine Kd.C_drewN ?_ _) | (with_reducible refine Kd.C_drew ?_))); (case side2 => exact (Kd.R_reads' HO350.out).2.1); rintro e w35 ⟨v353, rfl, ho0, hb⟩; have n0_ := Aside0.mk (Kd.R_below (by (with_reducible repeat (first | apply Kd.R_alloc | apply Kd.R_drewN | apply Kd.R_drew)); exact HO350.out) hb); have n1_ := Aside0.mk (Kd.R_lower ho0 (below_size (by repeat (first | (with_reducible first | exact HB.out | apply below_alloc | apply pw_below_drewN | apply below_drew1 | refine below_set ?_ GE336.out) | exact HB.out)))); have n2_ := Aside0.mk (blk_below (g := gb336) (o := .cells #[.int .u32 a1_0, .int .u32 a1_1] 49 (0, 0)) (by (with_reducible repeat (first | refine blk_drewN ?_ _ | refine blk_drew ?_ | refine blk_alloc ?_ _)); exact BK336.out) hb); have n3_ := Aside0.mk (below_step (by repeat (first | (with_reducible first | exact HB.out | apply below_alloc | apply pw_below_drewN | apply below_drew1 | refine below_set ?_ GE336.out) | exact HB.out)) hb); clear HO350; clear BK336; clear HB; have HO350 := n0_; have HO354 := n1_; have BK336 := n2_; have HB := n3_; clear n0_ n1_ n2_ n3_; (try clear hb); (try clear hb2); (try clear hk); (try clear hi); (try clear ho0))); go_upto_region 13 with (first | (go_at_call 34; (with_reducible refine (pack_Bits.calls kj22 _ _ l2 t348 _ ?side1 ?side2 A30.out).mono ?_); (case side1 => repeat (first | exact (Kd.C_below HR2.out HB.out) | (with_reducible refine Kd.C_alloc ?_ _) | (with_reducible refine Kd.C_drewN ?_ _) | (with_reducible refine Kd.C_drew ?_))); (case side2 => exact HC2.out); rintro e w33 ⟨v349, rfl, ho0, hb⟩; have n0_ := Aside0.mk (Kd.R_lower ho0 (below_size (by repeat (first | (with_reducible first | exact HB.out | apply below_alloc | apply pw_below_drewN | apply below_drew1 | refine below_set ?_ GE336.out) | exact HB.out)))); have n1_ := Aside0.mk (blk_below (g := gb336) (o := .cells #[.int .u32 a1_0, .int .u32 a1_1] 49 (0, 0)) (by (with_reducible repeat (first | refine blk_drewN ?_ _ | refine blk_drew ?_ | refine blk_alloc ?_ _)); exact BK336.out) hb); have n2_ := Aside0.mk (below_step (by repeat (first | (with_reducible first | exact HB.out | apply below_alloc | apply pw_below_drewN | apply below_drew1 | refine below_set ?_ GE336.out) | exact HB.out)) hb); clear BK336; clear HB; have HO350 := n0_; have BK336 := n1_; have HB := n2_; clear n0_ n1_ n2_; (try clear hb); (try clear hb2); (try clear hk); (try clear hi); (try clear ho0); obtain ⟨Ao34, co34, eo34⟩ := Kd.R_slice HO350.out; subst eo34) | (go_at_call 27; (with_reducible refine (pack_Unbits.calls kj22 _ _ t348 (l2.length : Int) t351 t352 _ ?side1 ?side2 A31.out).mono ?_); (case side1 => repeat (first | exact (Kd.R_reads' HO350.out).2.2 | (with_reducible refine Kd.C_alloc ?_ _) | (with_reducible refine Kd.C_drewN ?_ _) | (with_reducible refine Kd.C_drew ?_))); (case side2 => exact (Kd.R_reads' HO350.out).2.1); rintro e w35 ⟨v353, rfl, ho0, hb⟩; have n0_ := Aside0.mk (Kd.R_below (by (with_reducible repeat (first | apply Kd.R_alloc | apply Kd.R_drewN | apply Kd.R_drew)); exact HO350.out) hb); have n1_ := Aside0.mk (Kd.R_lower ho0 (below_size (by repeat (first | (with_reducible first | exact HB.out | apply below_alloc | apply pw_below_drewN | apply below_drew1 | refine below_set ?_ GE336.out) | exact HB.out)))); have n2_ := Aside0.mk (blk_below (g := gb336) (o := .cells #[.int .u32 a1_0, .int .u32 a1_1] 49 (0, 0)) (by (with_reducible repeat (first | refine blk_drewN ?_ _ | refine blk_drew ?_ | refine blk_alloc ?_ _)); exact BK336.out) hb); have n3_ := Aside0.mk (below_step (by repeat (first | (with_reducible first | exact HB.out | apply below_alloc | apply pw_below_drewN | apply below_drew1 | refine below_set ?_ GE336.out) | exact HB.out)) hb); clear HO350; clear BK336; clear HB; have HO350 := n0_; have HO354 := n1_; have BK336 := n2_; have HB := n3_; clear n0_ n1_ n2_ n3_; (try clear hb); (try clear hb2); (try clear hk); (try clear hi); (try clear ho0))))
                    (try simp only [Act.put, List.setIfInBounds_toArray, List.set_cons_zero, List.set_cons_succ])
                    go_cut [103] (fun v103 wc => ∃ (kq : Nat) (x103_31 : Bool), v103 = .bool x103_31 ∧ Aside0 (caesuralaw05_PackBack.j3 kq l2 t348 x103_31 = some r) ∧ Aside0 (kq ≤ kj22) ∧ Aside0 (Kd.R (Kd.int .u8) 5 wc w.heap.size (fun _ => True) (.slice Ao34 t348.length co34) t348) ∧ Aside0 (wc.heap[gb336]? = some (.cells #[.int .u32 a1_0, .int .u32 a1_1] 49 (0, 0))) ∧ Aside0 (Below w.heap.size w wc))
                    case first =>
                      have H := HC32.out
                      clear HC32
                      by_cases c36 : t352 = true
                      · subst c36
                        have H1 : ((caesurakeep_Bools.f kj22 t351 l2).bind fun t355 => (if t355 = true then (caesuralaw05_PackBack.j3 kj22 l2 t348 ((t348.length : Int) != (wrap64 (Int.tdiv (wrap64 ((l2.length : Int) + 7)) 8)))) else (caesuralaw05_PackBack.j3 kj22 l2 t348 true))) = some r := by rw [if_pos rfl] at H; exact H
                        clear H
                        have H := H1
                        clear H1
                        replace H := Option.bind_eq_some_iff.mp H
                        obtain ⟨t355, A370, H⟩ := H
                        replace H : (if t355 = true then (caesuralaw05_PackBack.j3 kj22 l2 t348 ((t348.length : Int) != (wrap64 (Int.tdiv (wrap64 ((l2.length : Int) + 7)) 8)))) else (caesuralaw05_PackBack.j3 kj22 l2 t348 true)) = some r := H
                        have A37 := Aside0.mk A370
                        clear A370
                        by_cases c38 : t355 = true
                        · subst c38
                          have H1 : (caesuralaw05_PackBack.j3 kj22 l2 t348 ((t348.length : Int) != (wrap64 (Int.tdiv (wrap64 ((l2.length : Int) + 7)) 8)))) = some r := by rw [if_pos rfl] at H; exact H
                          clear H
                          have H := H1
                          clear H1
                          have H' := Aside0.mk H
                          clear H
                          obtain ⟨Ao39, co39, eo39⟩ := Kd.R_slice HO354.out
                          subst eo39
                          go_wp2_with (first | (go_at_call 36; (with_reducible refine (caesurakeep_Bools.calls kj22 _ _ t351 _ _ l2 true _ ?side1 ?side2 ?side3 ?side4 A37.out).mono ?_); (case side1 => repeat (first | exact (Kd.R_reads' HO354.out).2.2 | (with_reducible refine Kd.C_alloc ?_ _) | (with_reducible refine Kd.C_drewN ?_ _) | (with_reducible refine Kd.C_drew ?_))); (case side2 => exact (Kd.R_reads' HO354.out).2.1); (case side3 => repeat (first | exact (Kd.C_below HR2.out HB.out) | (with_reducible refine Kd.C_alloc ?_ _) | (with_reducible refine Kd.C_drewN ?_ _) | (with_reducible refine Kd.C_drew ?_))); (case side4 => exact HC2.out); rintro e w' ⟨rfl, ⟨nd, rfl⟩⟩; (try first | exact ⟨rfl, _, World.drewN_drewN _ _ _⟩ | exact ⟨rfl, _, Eq.trans (World.drewN_drewN _ _ _) (congrArg (World.drewN _) (Nat.add_assoc _ _ _))⟩)))
                          repeat (go_quiet (first | (go_at_call 36; (with_reducible refine (caesurakeep_Bools.calls kj22 _ _ t351 _ _ l2 true _ ?side1 ?side2 ?side3 ?side4 A37.out).mono ?_); (case side1 => repeat (first | exact (Kd.R_reads' HO354.out).2.2 | (with_reducible refine Kd.C_alloc ?_ _) | (with_reducible refine Kd.C_drewN ?_ _) | (with_reducible refine Kd.C_drew ?_))); (case side2 => exact (Kd.R_reads' HO354.out).2.1); (case side3 => repeat (first | exact (Kd.C_below HR2.out HB.out) | (with_reducible refine Kd.C_alloc ?_ _) | (with_reducible refine Kd.C_drewN ?_ _) | (with_reducible refine Kd.C_drew ?_))); (case side4 => exact HC2.out); rintro e w' ⟨rfl, ⟨nd, rfl⟩⟩; (try first | exact ⟨rfl, _, World.drewN_drewN _ _ _⟩ | exact ⟨rfl, _, Eq.trans (World.drewN_drewN _ _ _) (congrArg (World.drewN _) (Nat.add_assoc _ _ _))⟩))); try go_wp2_with (first | (go_at_call 36; (with_reducible refine (caesurakeep_Bools.calls kj22 _ _ t351 _ _ l2 true _ ?side1 ?side2 ?side3 ?side4 A37.out).mono ?_); (case side1 => repeat (first | exact (Kd.R_reads' HO354.out).2.2 | (with_reducible refine Kd.C_alloc ?_ _) | (with_reducible refine Kd.C_drewN ?_ _) | (with_reducible refine Kd.C_drew ?_))); (case side2 => exact (Kd.R_reads' HO354.out).2.1); (case side3 => repeat (first | exact (Kd.C_below HR2.out HB.out) | (with_reducible refine Kd.C_alloc ?_ _) | (with_reducible refine Kd.C_drewN ?_ _) | (with_reducible refine Kd.C_drew ?_))); (case side4 => exact HC2.out); rintro e w' ⟨rfl, ⟨nd, rfl⟩⟩; (try first | exact ⟨rfl, _, World.drewN_drewN _ _ _⟩ | exact ⟨rfl, _, Eq.trans (World.drewN_drewN _ _ _) (congrArg (World.drewN _) (Nat.add_assoc _ _ _))⟩))))
                          go_meet
                          case rel => exact ⟨_, (((t348.length : Int) != (wrap64 (Int.tdiv (wrap64 ((l2.length : Int) + 7)) 8)))), (by first | rfl | (simp; done) | (simp [*]; done)), H', ⟨by have := HJ3.out; have := HJ11.out; have := HJ22.out; first | omega | exact Nat.le_refl _⟩, ⟨by (with_reducible repeat (first | apply Kd.R_alloc | apply Kd.R_drewN | apply Kd.R_drew)); exact HO350.out⟩, ⟨by (with_reducible repeat (first | refine blk_drewN ?_ _ | refine blk_drew ?_ | refine blk_alloc ?_ _)); exact BK336.out⟩, ⟨by repeat (first | (with_reducible first | exact HB.out | apply below_alloc | apply pw_below_drewN | apply below_drew1 | refine below_set ?_ GE336.out) | exact HB.out)⟩⟩
                        · replace c38 := Bool.eq_false_iff.mpr c38
                          subst c38
                          have H1 : (caesuralaw05_PackBack.j3 kj22 l2 t348 true) = some r := by rw [if_neg (show ¬ (false = true) by decide)] at H; exact H
                          clear H
                          have H := H1
                          clear H1
                          have H' := Aside0.mk H
                          clear H
                          obtain ⟨Ao40, co40, eo40⟩ := Kd.R_slice HO354.out
                          subst eo40
                          go_wp2_with (first | (go_at_call 36; (with_reducible refine (caesurakeep_Bools.calls kj22 _ _ t351 _ _ l2 false _ ?side1 ?side2 ?side3 ?side4 A37.out).mono ?_); (case side1 => repeat (first | exact (Kd.R_reads' HO354.out).2.2 | (with_reducible refine Kd.C_alloc ?_ _) | (with_reducible refine Kd.C_drewN ?_ _) | (with_reducible refine Kd.C_drew ?_))); (case side2 => exact (Kd.R_reads' HO354.out).2.1); (case side3 => repeat (first | exact (Kd.C_below HR2.out HB.out) | (with_reducible refine Kd.C_alloc ?_ _) | (with_reducible refine Kd.C_drewN ?_ _) | (with_reducible refine Kd.C_drew ?_))); (case side4 => exact HC2.out); rintro e w' ⟨rfl, ⟨nd, rfl⟩⟩; (try first | exact ⟨rfl, _, World.drewN_drewN _ _ _⟩ | exact ⟨rfl, _, Eq.trans (World.drewN_drewN _ _ _) (congrArg (World.drewN _) (Nat.add_assoc _ _ _))⟩)))
                          repeat (go_quiet (first | (go_at_call 36; (with_reducible refine (caesurakeep_Bools.calls kj22 _ _ t351 _ _ l2 false _ ?side1 ?side2 ?side3 ?side4 A37.out).mono ?_); (case side1 => repeat (first | exact (Kd.R_reads' HO354.out).2.2 | (with_reducible refine Kd.C_alloc ?_ _) | (with_reducible refine Kd.C_drewN ?_ _) | (with_reducible refine Kd.C_drew ?_))); (case side2 => exact (Kd.R_reads' HO354.out).2.1); (case side3 => repeat (first | exact (Kd.C_below HR2.out HB.out) | (with_reducible refine Kd.C_alloc ?_ _) | (with_reducible refine Kd.C_drewN ?_ _) | (with_reducible refine Kd.C_drew ?_))); (case side4 => exact HC2.out); rintro e w' ⟨rfl, ⟨nd, rfl⟩⟩; (try first | exact ⟨rfl, _, World.drewN_drewN _ _ _⟩ | exact ⟨rfl, _, Eq.trans (World.drewN_drewN _ _ _) (congrArg (World.drewN _) (Nat.add_assoc _ _ _))⟩))); try go_wp2_with (first | (go_at_call 36; (with_reducible refine (caesurakeep_Bools.calls kj22 _ _ t351 _ _ l2 false _ ?side1 ?side2 ?side3 ?side4 A37.out).mono ?_); (case side1 => repeat (first | exact (Kd.R_reads' HO354.out).2.2 | (with_reducible refine Kd.C_alloc ?_ _) | (with_reducible refine Kd.C_drewN ?_ _) | (with_reducible refine Kd.C_drew ?_))); (case side2 => exact (Kd.R_reads' HO354.out).2.1); (case side3 => repeat (first | exact (Kd.C_below HR2.out HB.out) | (with_reducible refine Kd.C_alloc ?_ _) | (with_reducible refine Kd.C_drewN ?_ _) | (with_reducible refine Kd.C_drew ?_))); (case side4 => exact HC2.out); rintro e w' ⟨rfl, ⟨nd, rfl⟩⟩; (try first | exact ⟨rfl, _, World.drewN_drewN _ _ _⟩ | exact ⟨rfl, _, Eq.trans (World.drewN_drewN _ _ _) (congrArg (World.drewN _) (Nat.add_assoc _ _ _))⟩))))
                          go_meet
                          case rel => exact ⟨_, (true), (by first | rfl | (simp; done) | (simp [*]; done)), H', ⟨by have := HJ3.out; have := HJ11.out; have := HJ22.out; first | omega | exact Nat.le_refl _⟩, ⟨by (with_reducible repeat (first | apply Kd.R_alloc | apply Kd.R_drewN | apply Kd.R_drew)); exact HO350.out⟩, ⟨by (with_reducible repeat (first | refine blk_drewN ?_ _ | refine blk_drew ?_ | refine blk_alloc ?_ _)); exact BK336.out⟩, ⟨by repeat (first | (with_reducible first | exact HB.out | apply below_alloc | apply pw_below_drewN | apply below_drew1 | refine below_set ?_ GE336.out) | exact HB.out)⟩⟩
                      · replace c36 := Bool.eq_false_iff.mpr c36
                        subst c36
                        have H1 : (caesuralaw05_PackBack.j3 kj22 l2 t348 true) = some r := by rw [if_neg (show ¬ (false = true) by decide)] at H; exact H
                        clear H
                        have H := H1
                        clear H1
                        have H' := Aside0.mk H
                        clear H
                        go_wp2
                        repeat (go_quiet (fail); try go_wp2)
                        go_meet
                        case rel => exact ⟨_, (true), (by first | rfl | (simp; done) | (simp [*]; done)), H', ⟨by have := HJ3.out; have := HJ11.out; have := HJ22.out; first | omega | exact Nat.le_refl _⟩, ⟨by (with_reducible repeat (first | apply Kd.R_alloc | apply Kd.R_drewN | apply Kd.R_drew)); exact HO350.out⟩, ⟨by (with_reducible repeat (first | refine blk_drewN ?_ _ | refine blk_drew ?_ | refine blk_alloc ?_ _)); exact BK336.out⟩, ⟨by repeat (first | (with_reducible first | exact HB.out | apply below_alloc | apply pw_below_drewN | apply below_drew1 | refine below_set ?_ GE336.out) | exact HB.out)⟩⟩
                    case rest =>
                      clear HC32
                      try clear c1
                      try clear q1
                      try clear c2
                      try clear p2
                      try clear c3
                      try clear p6
                      try clear c7
                      try clear c7b0
                      try clear c7b1
                      try clear c8
                      try clear c9
                      try clear c14
                      try clear c14b0
                      try clear c14b1
                      try clear c15
                      try clear c15b0
                      try clear c15b1
                      try clear c16
                      try clear c16b0
                      try clear c16b1
                      try clear q19
                      try clear c21
                      try clear c25
                      try clear c27
                      try clear c27b0
                      try clear c27b1
                      try clear c29
                      try clear c36
                      try clear c38
                      try clear hcz6_0
                      try clear hcz6_1
                      try clear hfz6_0
                      try clear hfz6_1
                      try clear p2
                      try clear p6
                      try clear q1
                      try clear q19
                      obtain ⟨kq, x103_31, rfl, HA, HJ31, HO_13, BK336, HB⟩ := hcut
                      cases kq with
                      | zero => exact absurd HA.out (by simp [caesuralaw05_PackBack.j3])
                      | succ kj31 =>
                        have H := HA.out
                        clear HA
                        simp only [caesuralaw05_PackBack.j3] at H
                        by_cases c41 : x103_31 = true
                        · subst c41
                          have H1 : (none) = some r := by rw [if_pos rfl] at H; exact H
                          clear H
                          have H := H1
                          clear H1
                          exact absurd H (by simp)
                        · replace c41 := Bool.eq_false_iff.mpr c41
                          subst c41
                          have H1 : (if ((l2.length : Int) % 8) = 0 then ((caesuralaw05_wakes.f kj31).bind fun t356 => (some t356)) else (if 0 ≤ (wrap64 ((t348.length : Int) - 1)) then (if (wrap64 ((t348.length : Int) - 1)) < (t348.length : Int) then ((pack_Unbits.f kj31 (t348.set ((wrap64 ((t348.length : Int) - 1)) : Int).toNat (Go.bits .or .u8 (rd t348 (wrap64 ((t348.length : Int) - 1))) ((2 ^ ((l2.length : Int) % 8).toNat) % 256))) (l2.length : Int)).bind fun bt359 => (if bt359.2 = true then (none) else ((caesuralaw05_wakes.f kj31).bind fun t363 => (some t363)))) else (none)) else (none))) = some r := by rw [if_neg (show ¬ (false = true) by decide)] at H; exact H
                          clear H
                          have H := H1
                          clear H1
                          by_cases c42 : ((l2.length : Int) % 8) = 0
                          · rw [if_pos c42] at H
                            have c42b0 : (((l2.length : Int) % 8) == 0) = true := beq_iff_eq.mpr c42
                            have c42b1 : (((l2.length : Int) % 8) != 0) = false := bne_eq_false_iff_eq.mpr c42
                            clear c42
                            replace H := Option.bind_eq_some_iff.mp H
                            obtain ⟨t356, A430, H⟩ := H
                            replace H : (some t356) = some r := H
                            have A43 := Aside0.mk A430
                            clear A430
                            obtain rfl := Option.some.inj H
                            go_wp2_with (first | (go_at_call 24; (with_reducible refine (caesuralaw05_wakes.calls kj31  t356 _ A43.out).mono ?_); rintro e w44 ⟨rfl, hb⟩; have n0_ := Aside0.mk (Kd.R_below (by (with_reducible repeat (first | apply Kd.R_alloc | apply Kd.R_drewN | apply Kd.R_drew)); exact HO_13.out) hb); have n1_ := Aside0.mk (blk_below (g := gb336) (o := .cells #[.int .u32 a1_0, .int .u32 a1_1] 49 (0, 0)) (by (with_reducible repeat (first | refine blk_drewN ?_ _ | refine blk_drew ?_ | refine blk_alloc ?_ _)); exact BK336.out) hb); have n2_ := Aside0.mk (below_step (by repeat (first | (with_reducible first | exact HB.out | apply below_alloc | apply pw_below_drewN | apply below_drew1 | refine below_set ?_ GE336.out) | exact HB.out)) hb); clear HO_13; clear BK336; clear HB; have HO_13 := n0_; have BK336 := n1_; have HB := n2_; clear n0_ n1_ n2_; (try clear hb); (try clear hb2); (try clear hk); (try clear hi)))
                            repeat (go_quiet (first | (go_at_call 24; (with_reducible refine (caesuralaw05_wakes.calls kj31  t356 _ A43.out).mono ?_); rintro e w44 ⟨rfl, hb⟩; have n0_ := Aside0.mk (Kd.R_below (by (with_reducible repeat (first | apply Kd.R_alloc | apply Kd.R_drewN | apply Kd.R_drew)); exact HO_13.out) hb); have n1_ := Aside0.mk (blk_below (g := gb336) (o := .cells #[.int .u32 a1_0, .int .u32 a1_1] 49 (0, 0)) (by (with_reducible repeat (first | refine blk_drewN ?_ _ | refine blk_drew ?_ | refine blk_alloc ?_ _)); exact BK336.out) hb); have n2_ := Aside0.mk (below_step (by repeat (first | (with_reducible first | exact HB.out | apply below_alloc | apply pw_below_drewN | apply below_drew1 | refine below_set ?_ GE336.out) | exact HB.out)) hb); clear HO_13; clear BK336; clear HB; have HO_13 := n0_; have BK336 := n1_; have HB := n2_; clear n0_ n1_ n2_; (try clear hb); (try clear hb2); (try clear hk); (try clear hi))); try go_wp2_with (first | (go_at_call 24; (with_reducible refine (caesuralaw05_wakes.calls kj31  t356 _ A43.out).mono ?_); rintro e w44 ⟨rfl, hb⟩; have n0_ := Aside0.mk (Kd.R_below (by (with_reducible repeat (first | apply Kd.R_alloc | apply Kd.R_drewN | apply Kd.R_drew)); exact HO_13.out) hb); have n1_ := Aside0.mk (blk_below (g := gb336) (o := .cells #[.int .u32 a1_0, .int .u32 a1_1] 49 (0, 0)) (by (with_reducible repeat (first | refine blk_drewN ?_ _ | refine blk_drew ?_ | refine blk_alloc ?_ _)); exact BK336.out) hb); have n2_ := Aside0.mk (below_step (by repeat (first | (with_reducible first | exact HB.out | apply below_alloc | apply pw_below_drewN | apply below_drew1 | refine below_set ?_ GE336.out) | exact HB.out)) hb); clear HO_13; clear BK336; clear HB; have HO_13 := n0_; have BK336 := n1_; have HB := n2_; clear n0_ n1_ n2_; (try clear hb); (try clear hb2); (try clear hk); (try clear hi))))
                            go_ret
                            exact ⟨by first | rfl | (simp [errW_none, errW_some] <;> rfl) | (simp [*, errW_none, errW_some] <;> rfl), by repeat (first | (with_reducible first | exact HB.out | apply below_alloc | apply pw_below_drewN | apply below_drew1 | refine below_set ?_ GE336.out) | exact HB.out)⟩
                          · rw [if_neg c42] at H
                            have c42b0 : (((l2.length : Int) % 8) == 0) = false := beq_eq_false_iff_ne.mpr c42
                            have c42b1 : (((l2.length : Int) % 8) != 0) = true := bne_iff_ne.mpr c42
                            obtain ⟨ji45, hji45⟩ : ∃ j_ : Int, (wrap64 ((t348.length : Int) - 1)) = j_ := ⟨_, rfl⟩
                            replace H : (if 0 ≤ (ji45) then (if (ji45) < (t348.length : Int) then ((pack_Unbits.f kj31 (t348.set ((ji45) : Int).toNat (Go.bits .or .u8 (rd t348 (ji45)) ((2 ^ ((l2.length : Int) % 8).toNat) % 256))) (l2.length : Int)).bind fun bt359 => (if bt359.2 = true then (none) else ((caesuralaw05_wakes.f kj31).bind fun t363 => (some t363)))) else (none)) else (none)) = some r := by first | (rw [hji45] at H; exact H) | (simp only [hji45] at H ⊢; exact H)
                            have hji45w : (IntKind.i64.wrap ((t348.length : Int) - 1)) = ji45 := (i64_w _).trans hji45
                            by_cases c46 : 0 ≤ (ji45)
                            · rw [if_pos c46] at H
                              have c46b0 : decide (0 ≤ (ji45)) = true := decide_eq_true c46
                              clear c46
                              by_cases c47 : (ji45) < (t348.length : Int)
                              · rw [if_pos c47] at H
                                have c47b0 : decide ((ji45) < (t348.length : Int)) = true := decide_eq_true c47
                                clear c47
                                obtain ⟨y358, hy358⟩ : ∃ y_ : List Int, y_ = (t348.set ((ji45) : Int).toNat (Go.bits .or .u8 (rd t348 (ji45)) ((2 ^ ((l2.length : Int) % 8).toNat) % 256))) := ⟨_, rfl⟩
                                replace H : ((pack_Unbits.f kj31 y358 (l2.length : Int)).bind fun bt359 => (if bt359.2 = true then (none) else ((caesuralaw05_wakes.f kj31).bind fun t363 => (some t363)))) = some r := by first | (rw [hy358]; with_reducible exact H) | (have H2_ := (Option.bind_some _ _).symm.trans H; rw [hy358]; with_reducible exact H2_) | (have H2_ := (Option.bind_some _ _).symm.trans H; with_reducible exact H2_) | with_reducible exact H | (rw [hy358]; exact H) | exact H
                                have Ny358 := Aside0.mk hy358
                                clear hy358
                                replace H := Option.bind_eq_some_iff.mp H
                                obtain ⟨⟨t359, t360⟩, A490, H⟩ := H
                                replace H : (if t360 = true then (none) else ((caesuralaw05_wakes.f kj31).bind fun t363 => (some t363))) = some r := H
                                have A49 := Aside0.mk A490
                                clear A490
                                by_cases c50 : t360 = true
                                · subst c50
                                  have H1 : (none) = some r := by rw [if_pos rfl] at H; exact H
                                  clear H
                                  have H := H1
                                  clear H1
                                  exact absurd H (by simp)
                                · replace c50 := Bool.eq_false_iff.mpr c50
                                  subst c50
                                  have H1 : ((caesuralaw05_wakes.f kj31).bind fun t363 => (some t363)) = some r := by rw [if_neg (show ¬ (false = true) by decide)] at H; exact H
                                  clear H
                                  have H := H1
                                  clear H1
                                  replace H := Option.bind_eq_some_iff.mp H
                                  obtain ⟨t363, A510, H⟩ := H
                                  replace H : (some t363) = some r := H
                                  have A51 := Aside0.mk A510
                                  clear A510
                                  obtain rfl := Option.some.inj H
                                  have p357 : 0 ≤ ((ji45) : Int) := of_decide_eq_true (by first | (with_reducible assumption) | assumption)
                                  have q357 : (ji45) < (t348.length : Int) := of_decide_eq_true (by first | (with_reducible assumption) | assumption)
                                  obtain ⟨ad357, e357, hx357_0⟩ := Kd.at_int (Kd.R_reads' HO_13.out).2.2 (ji45) p357 q357
                                  cases e357
                                  replace p357 := eq_true p357
                                  replace q357 := eq_true q357
                                  have p48 : 0 ≤ ((ji45) : Int) := of_decide_eq_true (by first | (with_reducible assumption) | assumption)
                                  have q48 : ((ji45) : Int) < ((t348.length : Int) : Int) := of_decide_eq_true (by first | (with_reducible assumption) | assumption)
                                  obtain ⟨go48, co48, eo48, gb48, gl48, cl48, HG48⟩ := Kd.R_form HO_13.out (by omega)
                                  (first | cases eo48 | (injection eo48 with ea_ en_ ec_; (first | subst ea_ | (injection ea_ with ea_; subst ea_)); subst ec_; clear en_))
                                  have GB48 := Aside0.mk gb48
                                  have GG48 := Aside0.mk HG48
                                  clear gb48 gl48 HG48
                                  (first | simp only [add_plain] at hx357_0 | skip)
                                  obtain ⟨hx48_0, hf48_0⟩ := Kd.R_celln 0 HO_13.out ((ji45) : Int) p48 q48
                                  replace p48 := eq_true p48
                                  replace q48 := eq_true q48
                                  have HP52 := Kd.R_putg HO_13.out ((ji45) : Int) (Go.bits .or .u8 (rd t348 (ji45)) ((2 ^ ((l2.length : Int) % 8).toNat) % 256))
                                  go_wp2_with (first | ((with_reducible refine gate_store (t := 5) (p := 121) rfl ?_); (try (rw [drewN_self wc]; generalize hq_ : World.drewN wc _ = wc; have n0_ := Aside0.mk (Kd.R_at hq_ HO_13.out); have n1_ := Aside0.mk (blk_at hq_ BK336.out); have n2_ := Aside0.mk (below_at hq_ HB.out); clear hq_ HO_13 BK336 HB; have HO_13 := n0_; have BK336 := n1_; have HB := n2_; clear n0_ n1_ n2_; (try (have HP52 := Kd.R_putg HO_13.out ((ji45) : Int) (Go.bits .or .u8 (rd t348 (ji45)) ((2 ^ ((l2.length : Int) % 8).toNat) % 256)))))); refine store_event (t := 5) (p := 121) (v := ?vo_w53) (w1 := (wc.setCell ⟨go48, ((ji45) : Int).toNat, none⟩ (.int .u8 (Go.bits .or .u8 (rd t348 (ji45)) ((2 ^ ((l2.length : Int) % 8).toNat) % 256))))) ?hg ?ho ?hn ?hr ?_; (case ho => rfl); (case hg => rfl); (case hn => rfl); (case hr => first | (go_simp; done) | (go_simp; rfl)); intro w53 hw; have hg : wc.grownBy w53 (some go48) := (by rw [hw]; exact HP52.2); have hp_ : Kd.R (Kd.int .u8) 5 w53 w.heap.size (fun _ => True) (.slice (some ⟨go48, 0, none⟩) t348.length co34) y358 := (by rw [hw, Ny358.out]; exact HP52.1); clear HP52; have n0_ := Aside0.mk (hp_); have n1_ := Aside0.mk (blk_grown (g := gb336) (o := .cells #[.int .u32 a1_0, .int .u32 a1_1] 49 (0, 0)) (by (with_reducible repeat (first | refine blk_drewN ?_ _ | refine blk_drew ?_ | refine blk_alloc ?_ _)); exact BK336.out) hg (Kd.R_ne HO_13.out BK336.out (by decide))); have n2_ := Aside0.mk ((by rw [hw]; exact below_set (HB.out) GB48.out : Below w.heap.size w w53)); clear HO_13; clear BK336; clear HB; have HO_13 := n0_; have BK336 := n1_; have HB := n2_; clear n0_ n1_ n2_; clear hg hw hp_) | (go_at_call 27; refine calls_of_args (args' := #[.slice (some ⟨go48, 0, none⟩) y358.length co34, .int .i64 (l2.length : Int)]) (by first | (rw [show y358.length = t348.length from (Kd.R_reads' HO_13.out).1.symm] <;> rfl) | rfl) ?_; (with_reducible refine (pack_Unbits.calls kj31 _ _ y358 (l2.length : Int) t359 false _ ?side1 ?side2 A49.out).mono ?_); (case side1 => repeat (first | exact (Kd.R_reads' HO_13.out).2.2 | (with_reducible refine Kd.C_alloc ?_ _) | (with_reducible refine Kd.C_drewN ?_ _) | (with_reducible refine Kd.C_drew ?_))); (case side2 => rw [show y358.length = t348.length from (Kd.R_reads' HO_13.out).1.symm]; exact (Kd.R_reads' HO_13.out).2.1); rintro e w54 ⟨v361, rfl, ho0, hb⟩; have n0_ := Aside0.mk (Kd.R_below (by (with_reducible repeat (first | apply Kd.R_alloc | apply Kd.R_drewN | apply Kd.R_drew)); exact HO_13.out) hb); have n1_ := Aside0.mk (Kd.R_lower ho0 (below_size (by repeat (first | (with_reducible first | exact HB.out | apply below_alloc | apply pw_below_drewN | apply below_drew1 | refine below_set ?_ GE336.out) | exact HB.out)))); have n2_ := Aside0.mk (blk_below (g := gb336) (o := .cells #[.int .u32 a1_0, .int .u32 a1_1] 49 (0, 0)) (by (with_reducible repeat (first | refine blk_drewN ?_ _ | refine blk_drew ?_ | refine blk_alloc ?_ _)); exact BK336.out) hb); have n3_ := Aside0.mk (below_step (by repeat (first | (with_reducible first | exact HB.out | apply below_alloc | apply pw_below_drewN | apply below_drew1 | refine below_set ?_ GE336.out) | exact HB.out)) hb); clear HO_13; clear BK336; clear HB; have HO_13 := n0_; have HO362 := n1_; have BK336 := n2_; have HB := n3_; clear n0_ n1_ n2_ n3_; (try clear hb); (try clear hb2); (try clear hk); (try clear hi); (try clear ho0)) | (go_at_call 24; (with_reducible refine (caesuralaw05_wakes.calls kj31  t363 _ A51.out).mono ?_); rintro e w55 ⟨rfl, hb⟩; have n0_ := Aside0.mk (Kd.R_below (by (with_reducible repeat (first | apply Kd.R_alloc | apply Kd.R_drewN | apply Kd.R_drew)); exact HO_13.out) hb); have n1_ := Aside0.mk (Kd.R_below (by (with_reducible repeat (first | apply Kd.R_alloc | apply Kd.R_drewN | apply Kd.R_drew)); exact HO362.out) hb); have n2_ := Aside0.mk (blk_below (g := gb336) (o := .cells #[.int .u32 a1_0, .int .u32 a1_1] 49 (0, 0)) (by (with_reducible repeat (first | refine blk_drewN ?_ _ | refine blk_drew ?_ | refine blk_alloc ?_ _)); exact BK336.out) hb); have n3_ := Aside0.mk (below_step (by repeat (first | (with_reducible first | exact HB.out | apply below_alloc | apply pw_below_drewN | apply below_drew1 | refine below_set ?_ GE336.out) | exact HB.out)) hb); clear HO_13; clear HO362; clear BK336; clear HB; have HO_13 := n0_; have HO362 := n1_; have BK336 := n2_; have HB := n3_; clear n0_ n1_ n2_ n3_; (try clear hb); (try clear hb2); (try clear hk); (try clear hi)))
                                  repeat (go_quiet (first | ((with_reducible refine gate_store (t := 5) (p := 121) rfl ?_); (try (rw [drewN_self wc]; generalize hq_ : World.drewN wc _ = wc; have n0_ := Aside0.mk (Kd.R_at hq_ HO_13.out); have n1_ := Aside0.mk (blk_at hq_ BK336.out); have n2_ := Aside0.mk (below_at hq_ HB.out); clear hq_ HO_13 BK336 HB; have HO_13 := n0_; have BK336 := n1_; have HB := n2_; clear n0_ n1_ n2_; (try (have HP52 := Kd.R_putg HO_13.out ((ji45) : Int) (Go.bits .or .u8 (rd t348 (ji45)) ((2 ^ ((l2.length : Int) % 8).toNat) % 256)))))); refine store_event (t := 5) (p := 121) (v := ?vo_w53) (w1 := (wc.setCell ⟨go48, ((ji45) : Int).toNat, none⟩ (.int .u8 (Go.bits .or .u8 (rd t348 (ji45)) ((2 ^ ((l2.length : Int) % 8).toNat) % 256))))) ?hg ?ho ?hn ?hr ?_; (case ho => rfl); (case hg => rfl); (case hn => rfl); (case hr => first | (go_simp; done) | (go_simp; rfl)); intro w53 hw; have hg : wc.grownBy w53 (some go48) := (by rw [hw]; exact HP52.2); have hp_ : Kd.R (Kd.int .u8) 5 w53 w.heap.size (fun _ => True) (.slice (some ⟨go48, 0, none⟩) t348.length co34) y358 := (by rw [hw, Ny358.out]; exact HP52.1); clear HP52; have n0_ := Aside0.mk (hp_); have n1_ := Aside0.mk (blk_grown (g := gb336) (o := .cells #[.int .u32 a1_0, .int .u32 a1_1] 49 (0, 0)) (by (with_reducible repeat (first | refine blk_drewN ?_ _ | refine blk_drew ?_ | refine blk_alloc ?_ _)); exact BK336.out) hg (Kd.R_ne HO_13.out BK336.out (by decide))); have n2_ := Aside0.mk ((by rw [hw]; exact below_set (HB.out) GB48.out : Below w.heap.size w w53)); clear HO_13; clear BK336; clear HB; have HO_13 := n0_; have BK336 := n1_; have HB := n2_; clear n0_ n1_ n2_; clear hg hw hp_) | (go_at_call 27; refine calls_of_args (args' := #[.slice (some ⟨go48, 0, none⟩) y358.length co34, .int .i64 (l2.length : Int)]) (by first | (rw [show y358.length = t348.length from (Kd.R_reads' HO_13.out).1.symm] <;> rfl) | rfl) ?_; (with_reducible refine (pack_Unbits.calls kj31 _ _ y358 (l2.length : Int) t359 false _ ?side1 ?side2 A49.out).mono ?_); (case side1 => repeat (first | exact (Kd.R_reads' HO_13.out).2.2 | (with_reducible refine Kd.C_alloc ?_ _) | (with_reducible refine Kd.C_drewN ?_ _) | (with_reducible refine Kd.C_drew ?_))); (case side2 => rw [show y358.length = t348.length from (Kd.R_reads' HO_13.out).1.symm]; exact (Kd.R_reads' HO_13.out).2.1); rintro e w54 ⟨v361, rfl, ho0, hb⟩; have n0_ := Aside0.mk (Kd.R_below (by (with_reducible repeat (first | apply Kd.R_alloc | apply Kd.R_drewN | apply Kd.R_drew)); exact HO_13.out) hb); have n1_ := Aside0.mk (Kd.R_lower ho0 (below_size (by repeat (first | (with_reducible first | exact HB.out | apply below_alloc | apply pw_below_drewN | apply below_drew1 | refine below_set ?_ GE336.out) | exact HB.out)))); have n2_ := Aside0.mk (blk_below (g := gb336) (o := .cells #[.int .u32 a1_0, .int .u32 a1_1] 49 (0, 0)) (by (with_reducible repeat (first | refine blk_drewN ?_ _ | refine blk_drew ?_ | refine blk_alloc ?_ _)); exact BK336.out) hb); have n3_ := Aside0.mk (below_step (by repeat (first | (with_reducible first | exact HB.out | apply below_alloc | apply pw_below_drewN | apply below_drew1 | refine below_set ?_ GE336.out) | exact HB.out)) hb); clear HO_13; clear BK336; clear HB; have HO_13 := n0_; have HO362 := n1_; have BK336 := n2_; have HB := n3_; clear n0_ n1_ n2_ n3_; (try clear hb); (try clear hb2); (try clear hk); (try clear hi); (try clear ho0)) | (go_at_call 24; (with_reducible refine (caesuralaw05_wakes.calls kj31  t363 _ A51.out).mono ?_); rintro e w55 ⟨rfl, hb⟩; have n0_ := Aside0.mk (Kd.R_below (by (with_reducible repeat (first | apply Kd.R_alloc | apply Kd.R_drewN | apply Kd.R_drew)); exact HO_13.out) hb); have n1_ := Aside0.mk (Kd.R_below (by (with_reducible repeat (first | apply Kd.R_alloc | apply Kd.R_drewN | apply Kd.R_drew)); exact HO362.out) hb); have n2_ := Aside0.mk (blk_below (g := gb336) (o := .cells #[.int .u32 a1_0, .int .u32 a1_1] 49 (0, 0)) (by (with_reducible repeat (first | refine blk_drewN ?_ _ | refine blk_drew ?_ | refine blk_alloc ?_ _)); exact BK336.out) hb); have n3_ := Aside0.mk (below_step (by repeat (first | (with_reducible first | exact HB.out | apply below_alloc | apply pw_below_drewN | apply below_drew1 | refine below_set ?_ GE336.out) | exact HB.out)) hb); clear HO_13; clear HO362; clear BK336; clear HB; have HO_13 := n0_; have HO362 := n1_; have BK336 := n2_; have HB := n3_; clear n0_ n1_ n2_ n3_; (try clear hb); (try clear hb2); (try clear hk); (try clear hi))); try go_wp2_with (first | ((with_reducible refine gate_store (t := 5) (p := 121) rfl ?_); (try (rw [drewN_self wc]; generalize hq_ : World.drewN wc _ = wc; have n0_ := Aside0.mk (Kd.R_at hq_ HO_13.out); have n1_ := Aside0.mk (blk_at hq_ BK336.out); have n2_ := Aside0.mk (below_at hq_ HB.out); clear hq_ HO_13 BK336 HB; have HO_13 := n0_; have BK336 := n1_; have HB := n2_; clear n0_ n1_ n2_; (try (have HP52 := Kd.R_putg HO_13.out ((ji45) : Int) (Go.bits .or .u8 (rd t348 (ji45)) ((2 ^ ((l2.length : Int) % 8).toNat) % 256)))))); refine store_event (t := 5) (p := 121) (v := ?vo_w53) (w1 := (wc.setCell ⟨go48, ((ji45) : Int).toNat, none⟩ (.int .u8 (Go.bits .or .u8 (rd t348 (ji45)) ((2 ^ ((l2.length : Int) % 8).toNat) % 256))))) ?hg ?ho ?hn ?hr ?_; (case ho => rfl); (case hg => rfl); (case hn => rfl); (case hr => first | (go_simp; done) | (go_simp; rfl)); intro w53 hw; have hg : wc.grownBy w53 (some go48) := (by rw [hw]; exact HP52.2); have hp_ : Kd.R (Kd.int .u8) 5 w53 w.heap.size (fun _ => True) (.slice (some ⟨go48, 0, none⟩) t348.length co34) y358 := (by rw [hw, Ny358.out]; exact HP52.1); clear HP52; have n0_ := Aside0.mk (hp_); have n1_ := Aside0.mk (blk_grown (g := gb336) (o := .cells #[.int .u32 a1_0, .int .u32 a1_1] 49 (0, 0)) (by (with_reducible repeat (first | refine blk_drewN ?_ _ | refine blk_drew ?_ | refine blk_alloc ?_ _)); exact BK336.out) hg (Kd.R_ne HO_13.out BK336.out (by decide))); have n2_ := Aside0.mk ((by rw [hw]; exact below_set (HB.out) GB48.out : Below w.heap.size w w53)); clear HO_13; clear BK336; clear HB; have HO_13 := n0_; have BK336 := n1_; have HB := n2_; clear n0_ n1_ n2_; clear hg hw hp_) | (go_at_call 27; refine calls_of_args (args' := #[.slice (some ⟨go48, 0, none⟩) y358.length co34, .int .i64 (l2.length : Int)]) (by first | (rw [show y358.length = t348.length from (Kd.R_reads' HO_13.out).1.symm] <;> rfl) | rfl) ?_; (with_reducible refine (pack_Unbits.calls kj31 _ _ y358 (l2.length : Int) t359 false _ ?side1 ?side2 A49.out).mono ?_); (case side1 => repeat (first | exact (Kd.R_reads' HO_13.out).2.2 | (with_reducible refine Kd.C_alloc ?_ _) | (with_reducible refine Kd.C_drewN ?_ _) | (with_reducible refine Kd.C_drew ?_))); (case side2 => rw [show y358.length = t348.length from (Kd.R_reads' HO_13.out).1.symm]; exact (Kd.R_reads' HO_13.out).2.1); rintro e w54 ⟨v361, rfl, ho0, hb⟩; have n0_ := Aside0.mk (Kd.R_below (by (with_reducible repeat (first | apply Kd.R_alloc | apply Kd.R_drewN | apply Kd.R_drew)); exact HO_13.out) hb); have n1_ := Aside0.mk (Kd.R_lower ho0 (below_size (by repeat (first | (with_reducible first | exact HB.out | apply below_alloc | apply pw_below_drewN | apply below_drew1 | refine below_set ?_ GE336.out) | exact HB.out)))); have n2_ := Aside0.mk (blk_below (g := gb336) (o := .cells #[.int .u32 a1_0, .int .u32 a1_1] 49 (0, 0)) (by (with_reducible repeat (first | refine blk_drewN ?_ _ | refine blk_drew ?_ | refine blk_alloc ?_ _)); exact BK336.out) hb); have n3_ := Aside0.mk (below_step (by repeat (first | (with_reducible first | exact HB.out | apply below_alloc | apply pw_below_drewN | apply below_drew1 | refine below_set ?_ GE336.out) | exact HB.out)) hb); clear HO_13; clear BK336; clear HB; have HO_13 := n0_; have HO362 := n1_; have BK336 := n2_; have HB := n3_; clear n0_ n1_ n2_ n3_; (try clear hb); (try clear hb2); (try clear hk); (try clear hi); (try clear ho0)) | (go_at_call 24; (with_reducible refine (caesuralaw05_wakes.calls kj31  t363 _ A51.out).mono ?_); rintro e w55 ⟨rfl, hb⟩; have n0_ := Aside0.mk (Kd.R_below (by (with_reducible repeat (first | apply Kd.R_alloc | apply Kd.R_drewN | apply Kd.R_drew)); exact HO_13.out) hb); have n1_ := Aside0.mk (Kd.R_below (by (with_reducible repeat (first | apply Kd.R_alloc | apply Kd.R_drewN | apply Kd.R_drew)); exact HO362.out) hb); have n2_ := Aside0.mk (blk_below (g := gb336) (o := .cells #[.int .u32 a1_0, .int .u32 a1_1] 49 (0, 0)) (by (with_reducible repeat (first | refine blk_drewN ?_ _ | refine blk_drew ?_ | refine blk_alloc ?_ _)); exact BK336.out) hb); have n3_ := Aside0.mk (below_step (by repeat (first | (with_reducible first | exact HB.out | apply below_alloc | apply pw_below_drewN | apply below_drew1 | refine below_set ?_ GE336.out) | exact HB.out)) hb); clear HO_13; clear HO362; clear BK336; clear HB; have HO_13 := n0_; have HO362 := n1_; have BK336 := n2_; have HB := n3_; clear n0_ n1_ n2_ n3_; (try clear hb); (try clear hb2); (try clear hk); (try clear hi))))
                                  go_ret
                                  exact ⟨by first | rfl | (simp [errW_none, errW_some] <;> rfl) | (simp only [← hji45]; first | rfl | (simp [errW_none, errW_some] <;> rfl)) | (simp [*, errW_none, errW_some] <;> rfl), by repeat (first | (with_reducible first | exact HB.out | apply below_alloc | apply pw_below_drewN | apply below_drew1 | refine below_set ?_ GE336.out) | exact HB.out)⟩
                              · rw [if_neg c47] at H
                                exact absurd H (by simp)
                            · rw [if_neg c46] at H
                              exact absurd H (by simp)

/-- THE ONE PURE STATEMENT of caesuralaw05_PackBack. -/
def caesuralaw05_PackBack.Pure : Prop := ∀ (x0 : List Int) (x1 : S49) (x2 : List Bool), (x0.length ≤ maxLen ∧ ∀ x364 ∈ x0, (Lit.int .u8 x364).wf = true) → x0.length * 1 ≤ 140737488351232 → ((Lit.int .u32 x1.f0).wf = true ∧ (Lit.int .u32 x1.f1).wf = true) → (x2.length ≤ maxLen ∧ ∀ x365 ∈ x2, True) → ∃ k, caesuralaw05_PackBack.f k x0 (x1.f0) (x1.f1) x2 = some true

end Go.Proofs.Ytoilaibpmepecaa.X
