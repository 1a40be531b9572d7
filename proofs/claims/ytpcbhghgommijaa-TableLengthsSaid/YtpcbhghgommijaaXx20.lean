/- Functions of the program as Lean functions, and that the program comes to their answers (written by this session's own program, wip/x/xprint.py; Lean checks it). -/
import Derived.Test.YtpcbhghgommijaaXx0
import Derived.Test.YtpcbhghgommijaaXx5
import Derived.Test.YtpcbhghgommijaaXx9
namespace Go.Proofs.Ytpcbhghgommijaa.X
open Go.RowKit Go.Proofs.YtpcbhghgommijaaW.PrintWords Go.Proofs.YtpcbhghgommijaaW.PrintLast Go.Proofs.YtpcbhghgommijaaW.PrintMore
attribute [local go_sem] max2_int min2_int max_two min_two max_three min_three max_four min_four   -- for this text's walks alone
set_option linter.unusedVariables false
set_option linter.unusedSimpArgs false

open Go.Proofs.Ytpcbhghgommijaa.XMac
/-! ### caesuralaw06_TableLengths: function 8 -/
mutual
def caesuralaw06_TableLengths.j0 : Nat → Int → Int → Int → Int → Bool → Option (Bool)
 | 0, _, _, _, _, _ => none
 | k + 1, x3, x4, x5, x6, x47 => if x47 = true then (none) else (if (Int.tmod x4 8) = 0 then (caesuralaw06_TableLengths.j1 k x3 x4 x5 x6 1) else (caesuralaw06_TableLengths.j1 k x3 x4 x5 x6 0))
def caesuralaw06_TableLengths.j1 : Nat → Int → Int → Int → Int → Int → Option (Bool)
 | 0, _, _, _, _, _ => none
 | k + 1, x3, x4, x5, x6, x7 => if x4 < 255 then ((table_Length.f x3 (wrap64 (x4 + 1)) x5).bind fun t792 => (caesuralaw06_TableLengths.j2 k x3 x4 x5 (t792 != (wrap64 ((wrap64 (x6 + x3)) + x7))))) else (caesuralaw06_TableLengths.j2 k x3 x4 x5 false)
def caesuralaw06_TableLengths.j2 : Nat → Int → Int → Int → Bool → Option (Bool)
 | 0, _, _, _, _ => none
 | k + 1, x3, x4, x5, x65 => if x65 = true then (none) else ((table_Length.f 0 0 0).bind fun t793 => (if t793 = 11 then ((table_Length.f (-1) x4 x5).bind fun t794 => (if t794 = 0 then ((table_Length.f x3 256 x5).bind fun t795 => (if t795 = 0 then ((caesuralaw06_wakes.f k).bind fun t796 => (some t796)) else (none))) else (none))) else (none)))
end
def caesuralaw06_TableLengths.f (k : Nat) (a0_0 : Int) (a0_1 : Int) (a0_2 : Int) : Option (Bool) := (table_Length.f (wrap64 (a0_0)) (wrap64 (a0_1)) (wrap64 (a0_2))).bind fun t788 => (if (wrap64 (a0_0)) < 255 then ((table_Length.f (wrap64 ((wrap64 (a0_0)) + 1)) (wrap64 (a0_1)) (wrap64 (a0_2))).bind fun t789 => (if t789 = (wrap64 (t788 + (wrap64 (a0_1)))) then (if (wrap64 (a0_2)) < 255 then ((table_Length.f (wrap64 (a0_0)) (wrap64 (a0_1)) (wrap64 ((wrap64 (a0_2)) + 1))).bind fun t790 => (caesuralaw06_TableLengths.j0 k (wrap64 (a0_0)) (wrap64 (a0_1)) (wrap64 (a0_2)) t788 (t790 != (wrap64 (t788 + 4))))) else (caesuralaw06_TableLengths.j0 k (wrap64 (a0_0)) (wrap64 (a0_1)) (wrap64 (a0_2)) t788 false)) else (caesuralaw06_TableLengths.j0 k (wrap64 (a0_0)) (wrap64 (a0_1)) (wrap64 (a0_2)) t788 true))) else (if (wrap64 (a0_2)) < 255 then ((table_Length.f (wrap64 (a0_0)) (wrap64 (a0_1)) (wrap64 ((wrap64 (a0_2)) + 1))).bind fun t791 => (caesuralaw06_TableLengths.j0 k (wrap64 (a0_0)) (wrap64 (a0_1)) (wrap64 (a0_2)) t788 (t791 != (wrap64 (t788 + 4))))) else (caesuralaw06_TableLengths.j0 k (wrap64 (a0_0)) (wrap64 (a0_1)) (wrap64 (a0_2)) t788 false)))
theorem caesuralaw06_TableLengths.mono_l : ∀ k, (∀ y0 y1 y2 y3 y4, LeO (caesuralaw06_TableLengths.j0 k y0 y1 y2 y3 y4) (caesuralaw06_TableLengths.j0 (k + 1) y0 y1 y2 y3 y4)) ∧ (∀ y0 y1 y2 y3 y4, LeO (caesuralaw06_TableLengths.j1 k y0 y1 y2 y3 y4) (caesuralaw06_TableLengths.j1 (k + 1) y0 y1 y2 y3 y4)) ∧ (∀ y0 y1 y2 y3, LeO (caesuralaw06_TableLengths.j2 k y0 y1 y2 y3) (caesuralaw06_TableLengths.j2 (k + 1) y0 y1 y2 y3))
 | 0 => ⟨fun _ _ _ _ _ r h => by simp [caesuralaw06_TableLengths.j0] at h, fun _ _ _ _ _ r h => by simp [caesuralaw06_TableLengths.j1] at h, fun _ _ _ _ r h => by simp [caesuralaw06_TableLengths.j2] at h⟩
 | k + 1 => by
  obtain ⟨ih0, ih1, ih2⟩ := caesuralaw06_TableLengths.mono_l k
  refine ⟨?_, ?_, ?_⟩
  ·intro y0 y1 y2 y3 y4
   unfold caesuralaw06_TableLengths.j0
   repeat' first
   | (with_reducible exact ih0 _ _ _ _ _)
   | (with_reducible exact ih1 _ _ _ _ _)
   | (with_reducible exact ih2 _ _ _ _)
   | (with_reducible exact caesuralaw06_wakes.mono _)
   | (with_reducible exact LeO.refl _)
   | (with_reducible exact LeO.none _)
   | (with_reducible refine LeO.ite ?_ ?_)
   | (with_reducible refine LeO.bind ?_ (fun _ => ?_))
   | exact ih0 _ _ _ _ _
   | exact ih1 _ _ _ _ _
   | exact ih2 _ _ _ _
   | exact caesuralaw06_wakes.mono _
   | exact LeO.none _
   | refine LeO.ite ?_ ?_
   | refine LeO.bind ?_ (fun _ => ?_)
  ·intro y0 y1 y2 y3 y4
   unfold caesuralaw06_TableLengths.j1
   repeat' first
   | (with_reducible exact ih0 _ _ _ _ _)
   | (with_reducible exact ih1 _ _ _ _ _)
   | (with_reducible exact ih2 _ _ _ _)
   | (with_reducible exact caesuralaw06_wakes.mono _)
   | (with_reducible exact LeO.refl _)
   | (with_reducible exact LeO.none _)
   | (with_reducible refine LeO.ite ?_ ?_)
   | (with_reducible refine LeO.bind ?_ (fun _ => ?_))
   | exact ih0 _ _ _ _ _
   | exact ih1 _ _ _ _ _
   | exact ih2 _ _ _ _
   | exact caesuralaw06_wakes.mono _
   | exact LeO.none _
   | refine LeO.ite ?_ ?_
   | refine LeO.bind ?_ (fun _ => ?_)
  ·intro y0 y1 y2 y3
   unfold caesuralaw06_TableLengths.j2
   repeat' first
   | (with_reducible exact ih0 _ _ _ _ _)
   | (with_reducible exact ih1 _ _ _ _ _)
   | (with_reducible exact ih2 _ _ _ _)
   | (with_reducible exact caesuralaw06_wakes.mono _)
   | (with_reducible exact LeO.refl _)
   | (with_reducible exact LeO.none _)
   | (with_reducible refine LeO.ite ?_ ?_)
   | (with_reducible refine LeO.bind ?_ (fun _ => ?_))
   | exact ih0 _ _ _ _ _
   | exact ih1 _ _ _ _ _
   | exact ih2 _ _ _ _
   | exact caesuralaw06_wakes.mono _
   | exact LeO.none _
   | refine LeO.ite ?_ ?_
   | refine LeO.bind ?_ (fun _ => ?_)
theorem caesuralaw06_TableLengths.mono : ∀ a0 a1 a2 k, LeO (caesuralaw06_TableLengths.f k a0 a1 a2) (caesuralaw06_TableLengths.f (k + 1) a0 a1 a2) := by
 intro a0 a1 a2 k
 obtain ⟨ih0, ih1, ih2⟩ := caesuralaw06_TableLengths.mono_l k
 unfold caesuralaw06_TableLengths.f
 repeat' first
   | (with_reducible exact ih0 _ _ _ _ _)
   | (with_reducible exact ih1 _ _ _ _ _)
   | (with_reducible exact ih2 _ _ _ _)
   | (with_reducible exact caesuralaw06_wakes.mono _)
   | (with_reducible exact LeO.refl _)
   | (with_reducible exact LeO.none _)
   | (with_reducible refine LeO.ite ?_ ?_)
   | (with_reducible refine LeO.bind ?_ (fun _ => ?_))
   | exact ih0 _ _ _ _ _
   | exact ih1 _ _ _ _ _
   | exact ih2 _ _ _ _
   | exact caesuralaw06_wakes.mono _
   | exact LeO.none _
   | refine LeO.ite ?_ ?_
   | refine LeO.bind ?_ (fun _ => ?_)
set_option maxHeartbeats 8000000 in
set_option maxRecDepth 100000 in
theorem caesuralaw06_TableLengths.calls (k : Nat) (a0_0 : Int) (a0_1 : Int) (a0_2 : Int) (r : Bool) (w : World) (h : caesuralaw06_TableLengths.f k a0_0 a0_1 a0_2 = some r) :
  Calls Try.prog 8 #[.agg #[.int .u8 a0_0, .int .u8 a0_1, .int .u8 a0_2]] w fun e w' => e = .returned (.bool r) ∧ Below w.heap.size w w' := by
 have hu56 := Try.underlying56
 have HB := Aside0.mk (Below.refl w.heap.size w)
 have H : ((table_Length.f (wrap64 (a0_0)) (wrap64 (a0_1)) (wrap64 (a0_2))).bind fun t788 => (if (wrap64 (a0_0)) < 255 then ((table_Length.f (wrap64 ((wrap64 (a0_0)) + 1)) (wrap64 (a0_1)) (wrap64 (a0_2))).bind fun t789 => (if t789 = (wrap64 (t788 + (wrap64 (a0_1)))) then (if (wrap64 (a0_2)) < 255 then ((table_Length.f (wrap64 (a0_0)) (wrap64 (a0_1)) (wrap64 ((wrap64 (a0_2)) + 1))).bind fun t790 => (caesuralaw06_TableLengths.j0 k (wrap64 (a0_0)) (wrap64 (a0_1)) (wrap64 (a0_2)) t788 (t790 != (wrap64 (t788 + 4))))) else (caesuralaw06_TableLengths.j0 k (wrap64 (a0_0)) (wrap64 (a0_1)) (wrap64 (a0_2)) t788 false)) else (caesuralaw06_TableLengths.j0 k (wrap64 (a0_0)) (wrap64 (a0_1)) (wrap64 (a0_2)) t788 true))) else (if (wrap64 (a0_2)) < 255 then ((table_Length.f (wrap64 (a0_0)) (wrap64 (a0_1)) (wrap64 ((wrap64 (a0_2)) + 1))).bind fun t791 => (caesuralaw06_TableLengths.j0 k (wrap64 (a0_0)) (wrap64 (a0_1)) (wrap64 (a0_2)) t788 (t791 != (wrap64 (t788 + 4))))) else (caesuralaw06_TableLengths.j0 k (wrap64 (a0_0)) (wrap64 (a0_1)) (wrap64 (a0_2)) t788 false)))) = some r := h
 clear h
 replace H := Option.bind_eq_some_iff.mp H
 obtain ⟨t788, A20, H⟩ := H
 replace H : (if (wrap64 (a0_0)) < 255 then ((table_Length.f (wrap64 ((wrap64 (a0_0)) + 1)) (wrap64 (a0_1)) (wrap64 (a0_2))).bind fun t789 => (if t789 = (wrap64 (t788 + (wrap64 (a0_1)))) then (if (wrap64 (a0_2)) < 255 then ((table_Length.f (wrap64 (a0_0)) (wrap64 (a0_1)) (wrap64 ((wrap64 (a0_2)) + 1))).bind fun t790 => (caesuralaw06_TableLengths.j0 k (wrap64 (a0_0)) (wrap64 (a0_1)) (wrap64 (a0_2)) t788 (t790 != (wrap64 (t788 + 4))))) else (caesuralaw06_TableLengths.j0 k (wrap64 (a0_0)) (wrap64 (a0_1)) (wrap64 (a0_2)) t788 false)) else (caesuralaw06_TableLengths.j0 k (wrap64 (a0_0)) (wrap64 (a0_1)) (wrap64 (a0_2)) t788 true))) else (if (wrap64 (a0_2)) < 255 then ((table_Length.f (wrap64 (a0_0)) (wrap64 (a0_1)) (wrap64 ((wrap64 (a0_2)) + 1))).bind fun t791 => (caesuralaw06_TableLengths.j0 k (wrap64 (a0_0)) (wrap64 (a0_1)) (wrap64 (a0_2)) t788 (t791 != (wrap64 (t788 + 4))))) else (caesuralaw06_TableLengths.j0 k (wrap64 (a0_0)) (wrap64 (a0_1)) (wrap64 (a0_2)) t788 false))) = some r := H
 have A2 := Aside0.mk A20
 clear A20
 have HC3 := Aside0.mk H
 clear H
 go_enter Try.func8, Try.ntmps8
 go_upto_region 3 with (first | ((with_reducible refine gate_dst (N := 1) rfl ?_); refine box_event ?hg (N := 1) ?hd (cs := #[.int .u8 a0_0, .int .u8 a0_1, .int .u8 a0_2]) (t := 56) ?hr ?_; (case hd => rfl); (case hg => rfl); (case hr => xgs_); intro gb787 hg w4 hbox hb; have n0_ := Aside0.mk (below_step (by repeat (first | (with_reducible first | exact HB.out | apply below_alloc | apply pw_below_drewN | apply below_drew1) | exact HB.out)) hb); have n1_ := Aside0.mk (hbox); have n2_ := Aside0.mk ((by rw [hg]; exact (below_size (by repeat (first | (with_reducible first | exact HB.out | apply below_alloc | apply pw_below_drewN | apply below_drew1) | exact HB.out))) : w.heap.size ≤ gb787)); have n3_ := Aside0.mk ((by rw [hg]; exact (below_size (by repeat (first | (with_reducible first | exact HB.out | apply below_alloc | apply pw_below_drewN | apply below_drew1) | exact HB.out))) : w.heap.size ≤ gb787)); clear HB; have HB := n0_; have BK787 := n1_; have GW787 := n2_; have GE787 := n3_; clear n0_ n1_ n2_ n3_; clear hb hbox hg; have hcz5_0 : w4.cell? ⟨gb787, 0, none⟩ = some (.int .u8 a0_0) := (blk_cell BK787.out 0).trans rfl; have hcz5_1 : w4.cell? ⟨gb787, 1, none⟩ = some (.int .u8 a0_1) := (blk_cell BK787.out 1).trans rfl; have hcz5_2 : w4.cell? ⟨gb787, 2, none⟩ = some (.int .u8 a0_2) := (blk_cell BK787.out 2).trans rfl; have hfz5_0 := blk_frozen BK787.out 0; have hfz5_1 := blk_frozen BK787.out 1; have hfz5_2 := blk_frozen BK787.out 2) | (go_at_call 19; (with_reducible refine (table_Length.calls (wrap64 (a0_0)) (wrap64 (a0_1)) (wrap64 (a0_2)) t788 _ A2.out).mono ?_); rintro e w' ⟨rfl, ⟨nd, rfl⟩⟩; xdd_))
 repeat (go_quiet (first | ((with_reducible refine gate_dst (N := 1) rfl ?_); refine box_event ?hg (N := 1) ?hd (cs := #[.int .u8 a0_0, .int .u8 a0_1, .int .u8 a0_2]) (t := 56) ?hr ?_; (case hd => rfl); (case hg => rfl); (case hr => xgs_); intro gb787 hg w4 hbox hb; have n0_ := Aside0.mk (below_step (by repeat (first | (with_reducible first | exact HB.out | apply below_alloc | apply pw_below_drewN | apply below_drew1) | exact HB.out)) hb); have n1_ := Aside0.mk (hbox); have n2_ := Aside0.mk ((by rw [hg]; exact (below_size (by repeat (first | (with_reducible first | exact HB.out | apply below_alloc | apply pw_below_drewN | apply below_drew1) | exact HB.out))) : w.heap.size ≤ gb787)); have n3_ := Aside0.mk ((by rw [hg]; exact (below_size (by repeat (first | (with_reducible first | exact HB.out | apply below_alloc | apply pw_below_drewN | apply below_drew1) | exact HB.out))) : w.heap.size ≤ gb787)); clear HB; have HB := n0_; have BK787 := n1_; have GW787 := n2_; have GE787 := n3_; clear n0_ n1_ n2_ n3_; clear hb hbox hg; have hcz5_0 : w4.cell? ⟨gb787, 0, none⟩ = some (.int .u8 a0_0) := (blk_cell BK787.out 0).trans rfl; have hcz5_1 : w4.cell? ⟨gb787, 1, none⟩ = some (.int .u8 a0_1) := (blk_cell BK787.out 1).trans rfl; have hcz5_2 : w4.cell? ⟨gb787, 2, none⟩ = some (.int .u8 a0_2) := (blk_cell BK787.out 2).trans rfl; have hfz5_0 := blk_frozen BK787.out 0; have hfz5_1 := blk_frozen BK787.out 1; have hfz5_2 := blk_frozen BK787.out 2) | (go_at_call 19; (with_reducible refine (table_Length.calls (wrap64 (a0_0)) (wrap64 (a0_1)) (wrap64 (a0_2)) t788 _ A2.out).mono ?_); rintro e w' ⟨rfl, ⟨nd, rfl⟩⟩; xdd_)); go_upto_region 3 with (first | ((with_reducible refine gate_dst (N := 1) rfl ?_); refine box_event ?hg (N := 1) ?hd (cs := #[.int .u8 a0_0, .int .u8 a0_1, .int .u8 a0_2]) (t := 56) ?hr ?_; (case hd => rfl); (case hg => rfl); (case hr => xgs_); intro gb787 hg w4 hbox hb; have n0_ := Aside0.mk (below_step (by repeat (first | (with_reducible first | exact HB.out | apply below_alloc | apply pw_below_drewN | apply below_drew1) | exact HB.out)) hb); have n1_ := Aside0.mk (hbox); have n2_ := Aside0.mk ((by rw [hg]; exact (below_size (by repeat (first | (with_reducible first | exact HB.out | apply below_alloc | apply pw_below_drewN | apply below_drew1) | exact HB.out))) : w.heap.size ≤ gb787)); have n3_ := Aside0.mk ((by rw [hg]; exact (below_size (by repeat (first | (with_reducible first | exact HB.out | apply below_alloc | apply pw_below_drewN | apply below_drew1) | exact HB.out))) : w.heap.size ≤ gb787)); clear HB; have HB := n0_; have BK787 := n1_; have GW787 := n2_; have GE787 := n3_; clear n0_ n1_ n2_ n3_; clear hb hbox hg; have hcz5_0 : w4.cell? ⟨gb787, 0, none⟩ = some (.int .u8 a0_0) := (blk_cell BK787.out 0).trans rfl; have hcz5_1 : w4.cell? ⟨gb787, 1, none⟩ = some (.int .u8 a0_1) := (blk_cell BK787.out 1).trans rfl; have hcz5_2 : w4.cell? ⟨gb787, 2, none⟩ = some (.int .u8 a0_2) := (blk_cell BK787.out 2).trans rfl; have hfz5_0 := blk_frozen BK787.out 0; have hfz5_1 := blk_frozen BK787.out 1; have hfz5_2 := blk_frozen BK787.out 2) | (go_at_call 19; (with_reducible refine (table_Length.calls (wrap64 (a0_0)) (wrap64 (a0_1)) (wrap64 (a0_2)) t788 _ A2.out).mono ?_); rintro e w' ⟨rfl, ⟨nd, rfl⟩⟩; xdd_)))
 (try simp only [Act.put, List.setIfInBounds_toArray, List.set_cons_zero, List.set_cons_succ])
 go_cut [47] (fun v47 wc => ∃ (kq : Nat) (x47_2 : Bool), v47 = .bool x47_2 ∧ Aside0 (caesuralaw06_TableLengths.j0 kq (wrap64 (a0_0)) (wrap64 (a0_1)) (wrap64 (a0_2)) t788 x47_2 = some r) ∧ Aside0 (kq ≤ k) ∧ Aside0 (wc.heap[gb787]? = some (.cells #[.int .u8 a0_0, .int .u8 a0_1, .int .u8 a0_2] 56 (0, 0))) ∧ Aside0 (Below w.heap.size w wc))
 case first =>
  have H := HC3.out
  clear HC3
  by_cases c6 : (wrap64 (a0_0)) < 255
  ·rw [if_pos c6] at H
   have c6b0 : decide ((wrap64 (a0_0)) < 255) = true := decide_eq_true c6
   clear c6
   (first | rw [c6b0] | (simp only [i64_w, i32_w]; rw [c6b0]) | skip)
   replace H := Option.bind_eq_some_iff.mp H
   obtain ⟨t789, A70, H⟩ := H
   replace H : (if t789 = (wrap64 (t788 + (wrap64 (a0_1)))) then (if (wrap64 (a0_2)) < 255 then ((table_Length.f (wrap64 (a0_0)) (wrap64 (a0_1)) (wrap64 ((wrap64 (a0_2)) + 1))).bind fun t790 => (caesuralaw06_TableLengths.j0 k (wrap64 (a0_0)) (wrap64 (a0_1)) (wrap64 (a0_2)) t788 (t790 != (wrap64 (t788 + 4))))) else (caesuralaw06_TableLengths.j0 k (wrap64 (a0_0)) (wrap64 (a0_1)) (wrap64 (a0_2)) t788 false)) else (caesuralaw06_TableLengths.j0 k (wrap64 (a0_0)) (wrap64 (a0_1)) (wrap64 (a0_2)) t788 true)) = some r := H
   have A7 := Aside0.mk A70
   clear A70
   by_cases c8 : t789 = (wrap64 (t788 + (wrap64 (a0_1))))
   ·rw [if_pos c8] at H
    have c8b0 : (t789 == (wrap64 (t788 + (wrap64 (a0_1))))) = true := beq_iff_eq.mpr c8
    have c8b1 : (t789 != (wrap64 (t788 + (wrap64 (a0_1))))) = false := bne_eq_false_iff_eq.mpr c8
    clear c8
    by_cases c9 : (wrap64 (a0_2)) < 255
    ·rw [if_pos c9] at H
     have c9b0 : decide ((wrap64 (a0_2)) < 255) = true := decide_eq_true c9
     clear c9
     replace H := Option.bind_eq_some_iff.mp H
     obtain ⟨t790, A100, H⟩ := H
     replace H : (caesuralaw06_TableLengths.j0 k (wrap64 (a0_0)) (wrap64 (a0_1)) (wrap64 (a0_2)) t788 (t790 != (wrap64 (t788 + 4)))) = some r := H
     have A10 := Aside0.mk A100
     clear A100
     have H' := Aside0.mk H
     clear H
     go_wp2_with (first | (go_at_call 19; (with_reducible refine (table_Length.calls (wrap64 ((wrap64 (a0_0)) + 1)) (wrap64 (a0_1)) (wrap64 (a0_2)) t789 _ A7.out).mono ?_); rintro e w' ⟨rfl, ⟨nd, rfl⟩⟩; xdd_) | (go_at_call 19; (with_reducible refine (table_Length.calls (wrap64 (a0_0)) (wrap64 (a0_1)) (wrap64 ((wrap64 (a0_2)) + 1)) t790 _ A10.out).mono ?_); rintro e w' ⟨rfl, ⟨nd, rfl⟩⟩; xdd_))
     repeat (go_quiet (first | (go_at_call 19; (with_reducible refine (table_Length.calls (wrap64 ((wrap64 (a0_0)) + 1)) (wrap64 (a0_1)) (wrap64 (a0_2)) t789 _ A7.out).mono ?_); rintro e w' ⟨rfl, ⟨nd, rfl⟩⟩; xdd_) | (go_at_call 19; (with_reducible refine (table_Length.calls (wrap64 (a0_0)) (wrap64 (a0_1)) (wrap64 ((wrap64 (a0_2)) + 1)) t790 _ A10.out).mono ?_); rintro e w' ⟨rfl, ⟨nd, rfl⟩⟩; xdd_)); try go_wp2_with (first | (go_at_call 19; (with_reducible refine (table_Length.calls (wrap64 ((wrap64 (a0_0)) + 1)) (wrap64 (a0_1)) (wrap64 (a0_2)) t789 _ A7.out).mono ?_); rintro e w' ⟨rfl, ⟨nd, rfl⟩⟩; xdd_) | (go_at_call 19; (with_reducible refine (table_Length.calls (wrap64 (a0_0)) (wrap64 (a0_1)) (wrap64 ((wrap64 (a0_2)) + 1)) t790 _ A10.out).mono ?_); rintro e w' ⟨rfl, ⟨nd, rfl⟩⟩; xdd_)))
     go_meet
     case rel => exact ⟨_, ((t790 != (wrap64 (t788 + 4)))), (by xrs_), H', ⟨by first | omega | exact Nat.le_refl _⟩, ⟨by xkb_; exact BK787.out⟩, ⟨by repeat (first | (with_reducible first | exact HB.out | apply below_alloc | apply pw_below_drewN | apply below_drew1 | refine below_set ?_ GE787.out) | exact HB.out)⟩⟩
    ·rw [if_neg c9] at H
     have c9b0 : decide ((wrap64 (a0_2)) < 255) = false := decide_eq_false c9
     clear c9
     have H' := Aside0.mk H
     clear H
     go_wp2_with (first | (go_at_call 19; (with_reducible refine (table_Length.calls (wrap64 ((wrap64 (a0_0)) + 1)) (wrap64 (a0_1)) (wrap64 (a0_2)) t789 _ A7.out).mono ?_); rintro e w' ⟨rfl, ⟨nd, rfl⟩⟩; xdd_))
     repeat (go_quiet (first | (go_at_call 19; (with_reducible refine (table_Length.calls (wrap64 ((wrap64 (a0_0)) + 1)) (wrap64 (a0_1)) (wrap64 (a0_2)) t789 _ A7.out).mono ?_); rintro e w' ⟨rfl, ⟨nd, rfl⟩⟩; xdd_)); try go_wp2_with (first | (go_at_call 19; (with_reducible refine (table_Length.calls (wrap64 ((wrap64 (a0_0)) + 1)) (wrap64 (a0_1)) (wrap64 (a0_2)) t789 _ A7.out).mono ?_); rintro e w' ⟨rfl, ⟨nd, rfl⟩⟩; xdd_)))
     go_meet
     case rel => exact ⟨_, (false), (by xrs_), H', ⟨by first | omega | exact Nat.le_refl _⟩, ⟨by xkb_; exact BK787.out⟩, ⟨by repeat (first | (with_reducible first | exact HB.out | apply below_alloc | apply pw_below_drewN | apply below_drew1 | refine below_set ?_ GE787.out) | exact HB.out)⟩⟩
   ·rw [if_neg c8] at H
    have c8b0 : (t789 == (wrap64 (t788 + (wrap64 (a0_1))))) = false := beq_eq_false_iff_ne.mpr c8
    have c8b1 : (t789 != (wrap64 (t788 + (wrap64 (a0_1))))) = true := bne_iff_ne.mpr c8
    have H' := Aside0.mk H
    clear H
    go_wp2_with (first | (go_at_call 19; (with_reducible refine (table_Length.calls (wrap64 ((wrap64 (a0_0)) + 1)) (wrap64 (a0_1)) (wrap64 (a0_2)) t789 _ A7.out).mono ?_); rintro e w' ⟨rfl, ⟨nd, rfl⟩⟩; xdd_))
    repeat (go_quiet (first | (go_at_call 19; (with_reducible refine (table_Length.calls (wrap64 ((wrap64 (a0_0)) + 1)) (wrap64 (a0_1)) (wrap64 (a0_2)) t789 _ A7.out).mono ?_); rintro e w' ⟨rfl, ⟨nd, rfl⟩⟩; xdd_)); try go_wp2_with (first | (go_at_call 19; (with_reducible refine (table_Length.calls (wrap64 ((wrap64 (a0_0)) + 1)) (wrap64 (a0_1)) (wrap64 (a0_2)) t789 _ A7.out).mono ?_); rintro e w' ⟨rfl, ⟨nd, rfl⟩⟩; xdd_)))
    go_meet
    case rel => exact ⟨_, (true), (by xrs_), H', ⟨by first | omega | exact Nat.le_refl _⟩, ⟨by xkb_; exact BK787.out⟩, ⟨by repeat (first | (with_reducible first | exact HB.out | apply below_alloc | apply pw_below_drewN | apply below_drew1 | refine below_set ?_ GE787.out) | exact HB.out)⟩⟩
  ·rw [if_neg c6] at H
   have c6b0 : decide ((wrap64 (a0_0)) < 255) = false := decide_eq_false c6
   clear c6
   (first | rw [c6b0] | (simp only [i64_w, i32_w]; rw [c6b0]) | skip)
   by_cases c11 : (wrap64 (a0_2)) < 255
   ·rw [if_pos c11] at H
    have c11b0 : decide ((wrap64 (a0_2)) < 255) = true := decide_eq_true c11
    clear c11
    replace H := Option.bind_eq_some_iff.mp H
    obtain ⟨t791, A120, H⟩ := H
    replace H : (caesuralaw06_TableLengths.j0 k (wrap64 (a0_0)) (wrap64 (a0_1)) (wrap64 (a0_2)) t788 (t791 != (wrap64 (t788 + 4)))) = some r := H
    have A12 := Aside0.mk A120
    clear A120
    have H' := Aside0.mk H
    clear H
    go_wp2_with (first | (go_at_call 19; (with_reducible refine (table_Length.calls (wrap64 (a0_0)) (wrap64 (a0_1)) (wrap64 ((wrap64 (a0_2)) + 1)) t791 _ A12.out).mono ?_); rintro e w' ⟨rfl, ⟨nd, rfl⟩⟩; xdd_))
    repeat (go_quiet (first | (go_at_call 19; (with_reducible refine (table_Length.calls (wrap64 (a0_0)) (wrap64 (a0_1)) (wrap64 ((wrap64 (a0_2)) + 1)) t791 _ A12.out).mono ?_); rintro e w' ⟨rfl, ⟨nd, rfl⟩⟩; xdd_)); try go_wp2_with (first | (go_at_call 19; (with_reducible refine (table_Length.calls (wrap64 (a0_0)) (wrap64 (a0_1)) (wrap64 ((wrap64 (a0_2)) + 1)) t791 _ A12.out).mono ?_); rintro e w' ⟨rfl, ⟨nd, rfl⟩⟩; xdd_)))
    go_meet
    case rel => exact ⟨_, ((t791 != (wrap64 (t788 + 4)))), (by xrs_), H', ⟨by first | omega | exact Nat.le_refl _⟩, ⟨by xkb_; exact BK787.out⟩, ⟨by repeat (first | (with_reducible first | exact HB.out | apply below_alloc | apply pw_below_drewN | apply below_drew1 | refine below_set ?_ GE787.out) | exact HB.out)⟩⟩
   ·rw [if_neg c11] at H
    have c11b0 : decide ((wrap64 (a0_2)) < 255) = false := decide_eq_false c11
    clear c11
    have H' := Aside0.mk H
    clear H
    go_wp2
    repeat (go_quiet (fail); try go_wp2)
    go_meet
    case rel => exact ⟨_, (false), (by xrs_), H', ⟨by first | omega | exact Nat.le_refl _⟩, ⟨by xkb_; exact BK787.out⟩, ⟨by repeat (first | (with_reducible first | exact HB.out | apply below_alloc | apply pw_below_drewN | apply below_drew1 | refine below_set ?_ GE787.out) | exact HB.out)⟩⟩
 case rest =>
  clear HC3
  xcl_ c1 p2 c6 c6b0 p6 c8 c8b0 c8b1 c9 c9b0 c11 c11b0 hcz5_0 hcz5_1 hcz5_2 hfz5_0 hfz5_1 hfz5_2
  obtain ⟨kq, x47_2, rfl, HA, HJ2, BK787, HB⟩ := hcut
  cases kq with
  | zero => exact absurd HA.out (by simp [caesuralaw06_TableLengths.j0])
  | succ kj2 =>
   have H := HA.out
   clear HA
   simp only [caesuralaw06_TableLengths.j0] at H
   by_cases c13 : x47_2 = true
   ·subst c13
    have H1 : (none) = some r := by rw [if_pos rfl] at H; exact H
    clear H
    have H := H1
    clear H1
    exact absurd H (by simp)
   ·replace c13 := Bool.eq_false_iff.mpr c13
    subst c13
    have H1 : (if (Int.tmod (wrap64 (a0_1)) 8) = 0 then (caesuralaw06_TableLengths.j1 kj2 (wrap64 (a0_0)) (wrap64 (a0_1)) (wrap64 (a0_2)) t788 1) else (caesuralaw06_TableLengths.j1 kj2 (wrap64 (a0_0)) (wrap64 (a0_1)) (wrap64 (a0_2)) t788 0)) = some r := by rw [if_neg (show ¬ (false = true) by decide)] at H; exact H
    clear H
    have H := H1
    clear H1
    have HC14 := Aside0.mk H
    clear H
    go_upto_if 50 with (fail)
    repeat (go_quiet (fail); go_upto_if 50 with (fail))
    go_cut [7] (fun v7 wc => ∃ (kq : Nat) (x7_13 : Int), v7 = .int .i64 x7_13 ∧ Aside0 (caesuralaw06_TableLengths.j1 kq (wrap64 (a0_0)) (wrap64 (a0_1)) (wrap64 (a0_2)) t788 x7_13 = some r) ∧ Aside0 (kq ≤ kj2) ∧ Aside0 (wc.heap[gb787]? = some (.cells #[.int .u8 a0_0, .int .u8 a0_1, .int .u8 a0_2] 56 (0, 0))) ∧ Aside0 (Below w.heap.size w wc))
    case first =>
     have H := HC14.out
     clear HC14
     by_cases c15 : (Int.tmod (wrap64 (a0_1)) 8) = 0
     ·rw [if_pos c15] at H
      have c15b0 : ((Int.tmod (wrap64 (a0_1)) 8) == 0) = true := beq_iff_eq.mpr c15
      have c15b1 : ((Int.tmod (wrap64 (a0_1)) 8) != 0) = false := bne_eq_false_iff_eq.mpr c15
      clear c15
      (first | rw [c15b0] | (simp only [i64_w, i32_w]; rw [c15b0]) | skip)
      have H' := Aside0.mk H
      clear H
      go_wp2
      repeat (go_quiet (fail); try go_wp2)
      go_meet
      case rel => exact ⟨_, (1), (by xrs_), H', ⟨by have := HJ2.out; first | omega | exact Nat.le_refl _⟩, ⟨by xkb_; exact BK787.out⟩, ⟨by repeat (first | (with_reducible first | exact HB.out | apply below_alloc | apply pw_below_drewN | apply below_drew1 | refine below_set ?_ GE787.out) | exact HB.out)⟩⟩
     ·rw [if_neg c15] at H
      have c15b0 : ((Int.tmod (wrap64 (a0_1)) 8) == 0) = false := beq_eq_false_iff_ne.mpr c15
      have c15b1 : ((Int.tmod (wrap64 (a0_1)) 8) != 0) = true := bne_iff_ne.mpr c15
      (first | rw [c15b0] | (simp only [i64_w, i32_w]; rw [c15b0]) | skip)
      have H' := Aside0.mk H
      clear H
      go_wp2
      repeat (go_quiet (fail); try go_wp2)
      go_meet
      case rel => exact ⟨_, (0), (by xrs_), H', ⟨by have := HJ2.out; first | omega | exact Nat.le_refl _⟩, ⟨by xkb_; exact BK787.out⟩, ⟨by repeat (first | (with_reducible first | exact HB.out | apply below_alloc | apply pw_below_drewN | apply below_drew1 | refine below_set ?_ GE787.out) | exact HB.out)⟩⟩
    case rest =>
     clear HC14
     xcl_ c1 p2 c6 c6b0 p6 c8 c8b0 c8b1 c9 c9b0 c11 c11b0 c13 c15 c15b0 c15b1 hcz5_0 hcz5_1 hcz5_2 hfz5_0 hfz5_1 hfz5_2 p2 p6
     obtain ⟨kq, x7_13, rfl, HA, HJ13, BK787, HB⟩ := hcut
     cases kq with
     | zero => exact absurd HA.out (by simp [caesuralaw06_TableLengths.j1])
     | succ kj13 =>
      have H := HA.out
      clear HA
      simp only [caesuralaw06_TableLengths.j1] at H
      have HC16 := Aside0.mk H
      clear H
      go_upto_region 8 with (fail)
      repeat (go_quiet (fail); go_upto_region 8 with (fail))
      go_cut [65] (fun v65 wc => ∃ (kq : Nat) (x65_15 : Bool), v65 = .bool x65_15 ∧ Aside0 (caesuralaw06_TableLengths.j2 kq (wrap64 (a0_0)) (wrap64 (a0_1)) (wrap64 (a0_2)) x65_15 = some r) ∧ Aside0 (kq ≤ kj13) ∧ Aside0 (wc.heap[gb787]? = some (.cells #[.int .u8 a0_0, .int .u8 a0_1, .int .u8 a0_2] 56 (0, 0))) ∧ Aside0 (Below w.heap.size w wc))
      case first =>
       have H := HC16.out
       clear HC16
       by_cases c17 : (wrap64 (a0_1)) < 255
       ·rw [if_pos c17] at H
        have c17b0 : decide ((wrap64 (a0_1)) < 255) = true := decide_eq_true c17
        clear c17
        (first | rw [c17b0] | (simp only [i64_w, i32_w]; rw [c17b0]) | skip)
        replace H := Option.bind_eq_some_iff.mp H
        obtain ⟨t792, A180, H⟩ := H
        replace H : (caesuralaw06_TableLengths.j2 kj13 (wrap64 (a0_0)) (wrap64 (a0_1)) (wrap64 (a0_2)) (t792 != (wrap64 ((wrap64 (t788 + (wrap64 (a0_0)))) + x7_13)))) = some r := H
        have A18 := Aside0.mk A180
        clear A180
        have H' := Aside0.mk H
        clear H
        go_wp2_with (first | (go_at_call 19; (with_reducible refine (table_Length.calls (wrap64 (a0_0)) (wrap64 ((wrap64 (a0_1)) + 1)) (wrap64 (a0_2)) t792 _ A18.out).mono ?_); rintro e w' ⟨rfl, ⟨nd, rfl⟩⟩; xdd_))
        repeat (go_quiet (first | (go_at_call 19; (with_reducible refine (table_Length.calls (wrap64 (a0_0)) (wrap64 ((wrap64 (a0_1)) + 1)) (wrap64 (a0_2)) t792 _ A18.out).mono ?_); rintro e w' ⟨rfl, ⟨nd, rfl⟩⟩; xdd_)); try go_wp2_with (first | (go_at_call 19; (with_reducible refine (table_Length.calls (wrap64 (a0_0)) (wrap64 ((wrap64 (a0_1)) + 1)) (wrap64 (a0_2)) t792 _ A18.out).mono ?_); rintro e w' ⟨rfl, ⟨nd, rfl⟩⟩; xdd_)))
        go_meet
        case rel => exact ⟨_, ((t792 != (wrap64 ((wrap64 (t788 + (wrap64 (a0_0)))) + x7_13)))), (by xrs_), H', ⟨by have := HJ2.out; have := HJ13.out; first | omega | exact Nat.le_refl _⟩, ⟨by xkb_; exact BK787.out⟩, ⟨by repeat (first | (with_reducible first | exact HB.out | apply below_alloc | apply pw_below_drewN | apply below_drew1 | refine below_set ?_ GE787.out) | exact HB.out)⟩⟩
       ·rw [if_neg c17] at H
        have c17b0 : decide ((wrap64 (a0_1)) < 255) = false := decide_eq_false c17
        clear c17
        (first | rw [c17b0] | (simp only [i64_w, i32_w]; rw [c17b0]) | skip)
        have H' := Aside0.mk H
        clear H
        go_wp2
        repeat (go_quiet (fail); try go_wp2)
        go_meet
        case rel => exact ⟨_, (false), (by xrs_), H', ⟨by have := HJ2.out; have := HJ13.out; first | omega | exact Nat.le_refl _⟩, ⟨by xkb_; exact BK787.out⟩, ⟨by repeat (first | (with_reducible first | exact HB.out | apply below_alloc | apply pw_below_drewN | apply below_drew1 | refine below_set ?_ GE787.out) | exact HB.out)⟩⟩
      case rest =>
       clear HC16
       xcl_ c1 p2 c6 c6b0 p6 c8 c8b0 c8b1 c9 c9b0 c11 c11b0 c13 c15 c15b0 c15b1 c17 c17b0 hcz5_0 hcz5_1 hcz5_2 hfz5_0 hfz5_1 hfz5_2 p2 p6
       obtain ⟨kq, x65_15, rfl, HA, HJ15, BK787, HB⟩ := hcut
       cases kq with
       | zero => exact absurd HA.out (by simp [caesuralaw06_TableLengths.j2])
       | succ kj15 =>
        have H := HA.out
        clear HA
        simp only [caesuralaw06_TableLengths.j2] at H
        by_cases c19 : x65_15 = true
        ·subst c19
         have H1 : (none) = some r := by rw [if_pos rfl] at H; exact H
         clear H
         have H := H1
         clear H1
         exact absurd H (by simp)
        ·replace c19 := Bool.eq_false_iff.mpr c19
         subst c19
         have H1 : ((table_Length.f 0 0 0).bind fun t793 => (if t793 = 11 then ((table_Length.f (-1) (wrap64 (a0_1)) (wrap64 (a0_2))).bind fun t794 => (if t794 = 0 then ((table_Length.f (wrap64 (a0_0)) 256 (wrap64 (a0_2))).bind fun t795 => (if t795 = 0 then ((caesuralaw06_wakes.f kj15).bind fun t796 => (some t796)) else (none))) else (none))) else (none))) = some r := by rw [if_neg (show ¬ (false = true) by decide)] at H; exact H
         clear H
         have H := H1
         clear H1
         replace H := Option.bind_eq_some_iff.mp H
         obtain ⟨t793, A200, H⟩ := H
         replace H : (if t793 = 11 then ((table_Length.f (-1) (wrap64 (a0_1)) (wrap64 (a0_2))).bind fun t794 => (if t794 = 0 then ((table_Length.f (wrap64 (a0_0)) 256 (wrap64 (a0_2))).bind fun t795 => (if t795 = 0 then ((caesuralaw06_wakes.f kj15).bind fun t796 => (some t796)) else (none))) else (none))) else (none)) = some r := H
         have A20 := Aside0.mk A200
         clear A200
         by_cases c21 : t793 = 11
         ·rw [if_pos c21] at H
          have c21b0 : (t793 == 11) = true := beq_iff_eq.mpr c21
          have c21b1 : (t793 != 11) = false := bne_eq_false_iff_eq.mpr c21
          clear c21
          replace H := Option.bind_eq_some_iff.mp H
          obtain ⟨t794, A220, H⟩ := H
          replace H : (if t794 = 0 then ((table_Length.f (wrap64 (a0_0)) 256 (wrap64 (a0_2))).bind fun t795 => (if t795 = 0 then ((caesuralaw06_wakes.f kj15).bind fun t796 => (some t796)) else (none))) else (none)) = some r := H
          have A22 := Aside0.mk A220
          clear A220
          by_cases c23 : t794 = 0
          ·rw [if_pos c23] at H
           have c23b0 : (t794 == 0) = true := beq_iff_eq.mpr c23
           have c23b1 : (t794 != 0) = false := bne_eq_false_iff_eq.mpr c23
           clear c23
           replace H := Option.bind_eq_some_iff.mp H
           obtain ⟨t795, A240, H⟩ := H
           replace H : (if t795 = 0 then ((caesuralaw06_wakes.f kj15).bind fun t796 => (some t796)) else (none)) = some r := H
           have A24 := Aside0.mk A240
           clear A240
           by_cases c25 : t795 = 0
           ·rw [if_pos c25] at H
            have c25b0 : (t795 == 0) = true := beq_iff_eq.mpr c25
            have c25b1 : (t795 != 0) = false := bne_eq_false_iff_eq.mpr c25
            clear c25
            replace H := Option.bind_eq_some_iff.mp H
            obtain ⟨t796, A260, H⟩ := H
            replace H : (some t796) = some r := H
            have A26 := Aside0.mk A260
            clear A260
            obtain rfl := Option.some.inj H
            go_wp2_with (first | (go_at_call 19; (with_reducible refine (table_Length.calls 0 0 0 t793 _ A20.out).mono ?_); rintro e w' ⟨rfl, ⟨nd, rfl⟩⟩; xdd_) | (go_at_call 19; (with_reducible refine (table_Length.calls (-1) (wrap64 (a0_1)) (wrap64 (a0_2)) t794 _ A22.out).mono ?_); rintro e w' ⟨rfl, ⟨nd, rfl⟩⟩; xdd_) | (go_at_call 19; (with_reducible refine (table_Length.calls (wrap64 (a0_0)) 256 (wrap64 (a0_2)) t795 _ A24.out).mono ?_); rintro e w' ⟨rfl, ⟨nd, rfl⟩⟩; xdd_) | (go_at_call 10; (with_reducible refine (caesuralaw06_wakes.calls kj15  t796 _ A26.out).mono ?_); rintro e w27 ⟨rfl, hb⟩; have n0_ := Aside0.mk (blk_below (g := gb787) (o := .cells #[.int .u8 a0_0, .int .u8 a0_1, .int .u8 a0_2] 56 (0, 0)) (by xkb_; exact BK787.out) hb); have n1_ := Aside0.mk (below_step (by repeat (first | (with_reducible first | exact HB.out | apply below_alloc | apply pw_below_drewN | apply below_drew1 | refine below_set ?_ GE787.out) | exact HB.out)) hb); clear BK787; clear HB; have BK787 := n0_; have HB := n1_; clear n0_ n1_; (try clear hb); (try clear hb2); (try clear hk); (try clear hi)))
            repeat (go_quiet (first | (go_at_call 19; (with_reducible refine (table_Length.calls 0 0 0 t793 _ A20.out).mono ?_); rintro e w' ⟨rfl, ⟨nd, rfl⟩⟩; xdd_) | (go_at_call 19; (with_reducible refine (table_Length.calls (-1) (wrap64 (a0_1)) (wrap64 (a0_2)) t794 _ A22.out).mono ?_); rintro e w' ⟨rfl, ⟨nd, rfl⟩⟩; xdd_) | (go_at_call 19; (with_reducible refine (table_Length.calls (wrap64 (a0_0)) 256 (wrap64 (a0_2)) t795 _ A24.out).mono ?_); rintro e w' ⟨rfl, ⟨nd, rfl⟩⟩; xdd_) | (go_at_call 10; (with_reducible refine (caesuralaw06_wakes.calls kj15  t796 _ A26.out).mono ?_); rintro e w27 ⟨rfl, hb⟩; have n0_ := Aside0.mk (blk_below (g := gb787) (o := .cells #[.int .u8 a0_0, .int .u8 a0_1, .int .u8 a0_2] 56 (0, 0)) (by xkb_; exact BK787.out) hb); have n1_ := Aside0.mk (below_step (by repeat (first | (with_reducible first | exact HB.out | apply below_alloc | apply pw_below_drewN | apply below_drew1 | refine below_set ?_ GE787.out) | exact HB.out)) hb); clear BK787; clear HB; have BK787 := n0_; have HB := n1_; clear n0_ n1_; (try clear hb); (try clear hb2); (try clear hk); (try clear hi))); try go_wp2_with (first | (go_at_call 19; (with_reducible refine (table_Length.calls 0 0 0 t793 _ A20.out).mono ?_); rintro e w' ⟨rfl, ⟨nd, rfl⟩⟩; xdd_) | (go_at_call 19; (with_reducible refine (table_Length.calls (-1) (wrap64 (a0_1)) (wrap64 (a0_2)) t794 _ A22.out).mono ?_); rintro e w' ⟨rfl, ⟨nd, rfl⟩⟩; xdd_) | (go_at_call 19; (with_reducible refine (table_Length.calls (wrap64 (a0_0)) 256 (wrap64 (a0_2)) t795 _ A24.out).mono ?_); rintro e w' ⟨rfl, ⟨nd, rfl⟩⟩; xdd_) | (go_at_call 10; (with_reducible refine (caesuralaw06_wakes.calls kj15  t796 _ A26.out).mono ?_); rintro e w27 ⟨rfl, hb⟩; have n0_ := Aside0.mk (blk_below (g := gb787) (o := .cells #[.int .u8 a0_0, .int .u8 a0_1, .int .u8 a0_2] 56 (0, 0)) (by xkb_; exact BK787.out) hb); have n1_ := Aside0.mk (below_step (by repeat (first | (with_reducible first | exact HB.out | apply below_alloc | apply pw_below_drewN | apply below_drew1 | refine below_set ?_ GE787.out) | exact HB.out)) hb); clear BK787; clear HB; have BK787 := n0_; have HB := n1_; clear n0_ n1_; (try clear hb); (try clear hb2); (try clear hk); (try clear hi))))
            go_ret
            exact ⟨by first | rfl | (simp [errW_none, errW_some] <;> rfl) | (simp [*, errW_none, errW_some] <;> rfl), by repeat (first | (with_reducible first | exact HB.out | apply below_alloc | apply pw_below_drewN | apply below_drew1 | refine below_set ?_ GE787.out) | exact HB.out)⟩
           ·rw [if_neg c25] at H
            exact absurd H (by simp)
          ·rw [if_neg c23] at H
           exact absurd H (by simp)
         ·rw [if_neg c21] at H
          exact absurd H (by simp)
/-- THE ONE PURE STATEMENT of caesuralaw06_TableLengths. -/
def caesuralaw06_TableLengths.Pure : Prop := ∀ (x0 : S56), ((Lit.int .u8 x0.f0).wf = true ∧ ((Lit.int .u8 x0.f1).wf = true ∧ (Lit.int .u8 x0.f2).wf = true)) → ∃ k, caesuralaw06_TableLengths.f k (x0.f0) (x0.f1) (x0.f2) = some true

end Go.Proofs.Ytpcbhghgommijaa.X
