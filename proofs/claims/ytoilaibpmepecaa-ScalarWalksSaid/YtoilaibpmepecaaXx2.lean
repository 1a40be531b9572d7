/- Functions of the program as Lean functions, and that the program comes to their answers (written by this session's own program, wip/x/xprint.py; Lean checks it). -/
import Derived.Test.YtoilaibpmepecaaXx0
import Derived.Test.YtoilaibpmepecaaXx1
namespace Go.Proofs.Ytoilaibpmepecaa.X
open Go.RowKit Go.Proofs.YtoilaibpmepecaaW.PrintWords Go.Proofs.YtoilaibpmepecaaW.PrintLast Go.Proofs.YtoilaibpmepecaaW.PrintMore
attribute [local go_sem] max2_int min2_int max_two min_two max_three min_three max_four min_four   -- for this text's walks alone
set_option linter.unusedVariables false
set_option linter.unusedSimpArgs false

/-! ### caesuralaw01_ScalarTells: function 3 -/
def caesuralaw01_ScalarTells.j0 : Nat → Int → Int → Int → Bool → Int → Bool → Int → Bool → Int → Int → Bool → Int → Bool → Option (Bool)
  | 0, _, _, _, _, _, _, _, _, _, _, _, _, _ => none
  | k + 1, x0, x1, x5, x6, x7, x8, x9, x10, x13, x136000, x136001, x137000, x137001 => (scalar_Is.f x0).bind fun t139 => ((caesuraref01_Is.f x0).bind fun t140 => (if (t139 == t140) = true then (if x5 = x136000 then (if (x6 == x136001) = true then (if x7 = x137000 then (if (x8 == x137001) = true then ((scalar_Count.f x0 x1).bind fun t141 => ((caesuraref01_Count.f k x0 x1).bind fun t142 => (if t141 = t142 then ((caesuraref01_Is.f x0).bind fun t143 => (if (x10 == t143) = true then (if x9 = x13 then ((caesuralaw01_wakes.f).bind fun t144 => (some t144)) else (none)) else (none))) else (none)))) else (none)) else (none)) else (none)) else (none)) else (none)))
def caesuralaw01_ScalarTells.f (k : Nat) (a0 : Int) (a1 : Int) : Option (Bool) := (scalar_Next.f a0).bind fun bt125 => ((scalar_Prev.f a0).bind fun bt127 => ((scalar_Index.f a0).bind fun bt129 => ((caesuraref01_Next.f a0).bind fun bt131 => ((caesuraref01_Prev.f a0).bind fun bt133 => ((caesuraref01_Is.f a0).bind fun t137 => (if t137 = true then ((caesuraref01_Below.f a0).bind fun t138 => (caesuralaw01_ScalarTells.j0 k a0 a1 bt125.1 bt125.2 bt127.1 bt127.2 bt129.1 bt129.2 t138 bt131.1 bt131.2 bt133.1 bt133.2)) else (caesuralaw01_ScalarTells.j0 k a0 a1 bt125.1 bt125.2 bt127.1 bt127.2 bt129.1 bt129.2 0 bt131.1 bt131.2 bt133.1 bt133.2)))))))
theorem caesuralaw01_ScalarTells.mono_l : ∀ k, (∀ y0 y1 y2 y3 y4 y5 y6 y7 y8 y9 y10 y11 y12, LeO (caesuralaw01_ScalarTells.j0 k y0 y1 y2 y3 y4 y5 y6 y7 y8 y9 y10 y11 y12) (caesuralaw01_ScalarTells.j0 (k + 1) y0 y1 y2 y3 y4 y5 y6 y7 y8 y9 y10 y11 y12))
  | 0 => fun _ _ _ _ _ _ _ _ _ _ _ _ _ r h => by simp [caesuralaw01_ScalarTells.j0] at h
  | k + 1 => by
    have ih0 := caesuralaw01_ScalarTells.mono_l k
    · intro y0 y1 y2 y3 y4 y5 y6 y7 y8 y9 y10 y11 y12
      unfold caesuralaw01_ScalarTells.j0
      repeat' first
      | (with_reducible exact ih0 _ _ _ _ _ _ _ _ _ _ _ _ _)
      | (with_reducible exact caesuraref01_Count.mono _ _ _)
      | (with_reducible exact LeO.refl _)
      | (with_reducible exact LeO.none _)
      | (with_reducible refine LeO.ite ?_ ?_)
      | (with_reducible refine LeO.bind ?_ (fun _ => ?_))
      | exact ih0 _ _ _ _ _ _ _ _ _ _ _ _ _
      | exact caesuraref01_Count.mono _ _ _
      | exact LeO.none _
      | refine LeO.ite ?_ ?_
      | refine LeO.bind ?_ (fun _ => ?_)
theorem caesuralaw01_ScalarTells.mono : ∀ a0 a1 k, LeO (caesuralaw01_ScalarTells.f k a0 a1) (caesuralaw01_ScalarTells.f (k + 1) a0 a1) := by
  intro a0 a1 k
  have ih0 := caesuralaw01_ScalarTells.mono_l k
  unfold caesuralaw01_ScalarTells.f
  repeat' first
      | (with_reducible exact ih0 _ _ _ _ _ _ _ _ _ _ _ _ _)
      | (with_reducible exact caesuraref01_Count.mono _ _ _)
      | (with_reducible exact LeO.refl _)
      | (with_reducible exact LeO.none _)
      | (with_reducible refine LeO.ite ?_ ?_)
      | (with_reducible refine LeO.bind ?_ (fun _ => ?_))
      | exact ih0 _ _ _ _ _ _ _ _ _ _ _ _ _
      | exact caesuraref01_Count.mono _ _ _
      | exact LeO.none _
      | refine LeO.ite ?_ ?_
      | refine LeO.bind ?_ (fun _ => ?_)
set_option maxHeartbeats 8000000 in
set_option maxRecDepth 100000 in
theorem caesuralaw01_ScalarTells.calls (k : Nat) (a0 : Int) (a1 : Int) (r : Bool) (w : World) (h : caesuralaw01_ScalarTells.f k a0 a1 = some r) :
    Calls Try.prog 3 #[.int .i64 a0, .int .i64 a1] w fun e w' => e = .returned (.bool r) ∧ Below w.heap.size w w' := by
  have hu25 := Try.underlying25
  have HB := Aside0.mk (Below.refl w.heap.size w)
  have H : ((scalar_Next.f a0).bind fun bt125 => ((scalar_Prev.f a0).bind fun bt127 => ((scalar_Index.f a0).bind fun bt129 => ((caesuraref01_Next.f a0).bind fun bt131 => ((caesuraref01_Prev.f a0).bind fun bt133 => ((caesuraref01_Is.f a0).bind fun t137 => (if t137 = true then ((caesuraref01_Below.f a0).bind fun t138 => (caesuralaw01_ScalarTells.j0 k a0 a1 bt125.1 bt125.2 bt127.1 bt127.2 bt129.1 bt129.2 t138 bt131.1 bt131.2 bt133.1 bt133.2)) else (caesuralaw01_ScalarTells.j0 k a0 a1 bt125.1 bt125.2 bt127.1 bt127.2 bt129.1 bt129.2 0 bt131.1 bt131.2 bt133.1 bt133.2)))))))) = some r := h
  clear h
  replace H := Option.bind_eq_some_iff.mp H
  obtain ⟨⟨t125, t126⟩, A30, H⟩ := H
  replace H : ((scalar_Prev.f a0).bind fun bt127 => ((scalar_Index.f a0).bind fun bt129 => ((caesuraref01_Next.f a0).bind fun bt131 => ((caesuraref01_Prev.f a0).bind fun bt133 => ((caesuraref01_Is.f a0).bind fun t137 => (if t137 = true then ((caesuraref01_Below.f a0).bind fun t138 => (caesuralaw01_ScalarTells.j0 k a0 a1 t125 t126 bt127.1 bt127.2 bt129.1 bt129.2 t138 bt131.1 bt131.2 bt133.1 bt133.2)) else (caesuralaw01_ScalarTells.j0 k a0 a1 t125 t126 bt127.1 bt127.2 bt129.1 bt129.2 0 bt131.1 bt131.2 bt133.1 bt133.2))))))) = some r := H
  have A3 := Aside0.mk A30
  clear A30
  replace H := Option.bind_eq_some_iff.mp H
  obtain ⟨⟨t127, t128⟩, A40, H⟩ := H
  replace H : ((scalar_Index.f a0).bind fun bt129 => ((caesuraref01_Next.f a0).bind fun bt131 => ((caesuraref01_Prev.f a0).bind fun bt133 => ((caesuraref01_Is.f a0).bind fun t137 => (if t137 = true then ((caesuraref01_Below.f a0).bind fun t138 => (caesuralaw01_ScalarTells.j0 k a0 a1 t125 t126 t127 t128 bt129.1 bt129.2 t138 bt131.1 bt131.2 bt133.1 bt133.2)) else (caesuralaw01_ScalarTells.j0 k a0 a1 t125 t126 t127 t128 bt129.1 bt129.2 0 bt131.1 bt131.2 bt133.1 bt133.2)))))) = some r := H
  have A4 := Aside0.mk A40
  clear A40
  replace H := Option.bind_eq_some_iff.mp H
  obtain ⟨⟨t129, t130⟩, A50, H⟩ := H
  replace H : ((caesuraref01_Next.f a0).bind fun bt131 => ((caesuraref01_Prev.f a0).bind fun bt133 => ((caesuraref01_Is.f a0).bind fun t137 => (if t137 = true then ((caesuraref01_Below.f a0).bind fun t138 => (caesuralaw01_ScalarTells.j0 k a0 a1 t125 t126 t127 t128 t129 t130 t138 bt131.1 bt131.2 bt133.1 bt133.2)) else (caesuralaw01_ScalarTells.j0 k a0 a1 t125 t126 t127 t128 t129 t130 0 bt131.1 bt131.2 bt133.1 bt133.2))))) = some r := H
  have A5 := Aside0.mk A50
  clear A50
  replace H := Option.bind_eq_some_iff.mp H
  obtain ⟨⟨t131, t132⟩, A60, H⟩ := H
  replace H : ((caesuraref01_Prev.f a0).bind fun bt133 => ((caesuraref01_Is.f a0).bind fun t137 => (if t137 = true then ((caesuraref01_Below.f a0).bind fun t138 => (caesuralaw01_ScalarTells.j0 k a0 a1 t125 t126 t127 t128 t129 t130 t138 t131 t132 bt133.1 bt133.2)) else (caesuralaw01_ScalarTells.j0 k a0 a1 t125 t126 t127 t128 t129 t130 0 t131 t132 bt133.1 bt133.2)))) = some r := H
  have A6 := Aside0.mk A60
  clear A60
  replace H := Option.bind_eq_some_iff.mp H
  obtain ⟨⟨t133, t134⟩, A70, H⟩ := H
  replace H : ((caesuraref01_Is.f a0).bind fun t137 => (if t137 = true then ((caesuraref01_Below.f a0).bind fun t138 => (caesuralaw01_ScalarTells.j0 k a0 a1 t125 t126 t127 t128 t129 t130 t138 t131 t132 t133 t134)) else (caesuralaw01_ScalarTells.j0 k a0 a1 t125 t126 t127 t128 t129 t130 0 t131 t132 t133 t134))) = some r := H
  have A7 := Aside0.mk A70
  clear A70
  replace H := Option.bind_eq_some_iff.mp H
  obtain ⟨t137, A80, H⟩ := H
  replace H : (if t137 = true then ((caesuraref01_Below.f a0).bind fun t138 => (caesuralaw01_ScalarTells.j0 k a0 a1 t125 t126 t127 t128 t129 t130 t138 t131 t132 t133 t134)) else (caesuralaw01_ScalarTells.j0 k a0 a1 t125 t126 t127 t128 t129 t130 0 t131 t132 t133 t134)) = some r := H
  have A8 := Aside0.mk A80
  clear A80
  have HC9 := Aside0.mk H
  clear H
  go_enter Try.func3, Try.ntmps3
  go_upto_if 34 with (first | ((with_reducible refine gate_callee (f := 13) rfl ?_); refine goesL_ (some 16) rfl rfl Try.func13 (by kernel_rfl) rfl #[.int .i64 a0] rfl (by (try simp only [List.map_toArray, List.map_cons, List.map_nil]); first | done | rfl | (simp only [List.length_drop, List.length_take]; rfl)) ?_; (with_reducible refine (scalar_Next.calls a0 t125 t126 _ A3.out).mono ?_); rintro e w' ⟨rfl, ⟨nd, rfl⟩⟩; refine ⟨_, rfl, ?_⟩) | ((with_reducible refine gate_callee (f := 14) rfl ?_); refine goesL_ (some 21) rfl rfl Try.func14 (by kernel_rfl) rfl #[.int .i64 a0] rfl (by (try simp only [List.map_toArray, List.map_cons, List.map_nil]); first | done | rfl | (simp only [List.length_drop, List.length_take]; rfl)) ?_; (with_reducible refine (scalar_Prev.calls a0 t127 t128 _ A4.out).mono ?_); rintro e w' ⟨rfl, ⟨nd, rfl⟩⟩; refine ⟨_, rfl, ?_⟩) | ((with_reducible refine gate_callee (f := 15) rfl ?_); refine goesL_ (some 26) rfl rfl Try.func15 (by kernel_rfl) rfl #[.int .i64 a0] rfl (by (try simp only [List.map_toArray, List.map_cons, List.map_nil]); first | done | rfl | (simp only [List.length_drop, List.length_take]; rfl)) ?_; (with_reducible refine (scalar_Index.calls a0 t129 t130 _ A5.out).mono ?_); rintro e w10 ⟨rfl, hb⟩; refine ⟨_, rfl, ?_⟩; have n0_ := Aside0.mk (below_step (by repeat (first | (with_reducible first | exact HB.out | apply below_alloc | apply pw_below_drewN | apply below_drew1) | exact HB.out)) hb); clear HB; have HB := n0_; clear n0_; (try clear hb); (try clear hb2); (try clear hk); (try clear hi)) | ((with_reducible refine gate_callee (f := 16) rfl ?_); refine goesL_ (some 30) rfl rfl Try.func16 (by kernel_rfl) rfl #[.int .i64 a0] rfl (by (try simp only [List.map_toArray, List.map_cons, List.map_nil]); first | done | rfl | (simp only [List.length_drop, List.length_take]; rfl)) ?_; (with_reducible refine (caesuraref01_Next.calls a0 t131 t132 _ A6.out).mono ?_); rintro e w11 ⟨rfl, hb⟩; refine ⟨_, rfl, ?_⟩; have n0_ := Aside0.mk (below_step (by repeat (first | (with_reducible first | exact HB.out | apply below_alloc | apply pw_below_drewN | apply below_drew1) | exact HB.out)) hb); clear HB; have HB := n0_; clear n0_; (try clear hb); (try clear hb2); (try clear hk); (try clear hi)) | ((with_reducible refine gate_callee (f := 17) rfl ?_); refine goesL_ (some 32) rfl rfl Try.func17 (by kernel_rfl) rfl #[.int .i64 a0] rfl (by (try simp only [List.map_toArray, List.map_cons, List.map_nil]); first | done | rfl | (simp only [List.length_drop, List.length_take]; rfl)) ?_; (with_reducible refine (caesuraref01_Prev.calls a0 t133 t134 _ A7.out).mono ?_); rintro e w12 ⟨rfl, hb⟩; refine ⟨_, rfl, ?_⟩; have n0_ := Aside0.mk (below_step (by repeat (first | (with_reducible first | exact HB.out | apply below_alloc | apply pw_below_drewN | apply below_drew1) | exact HB.out)) hb); clear HB; have HB := n0_; clear n0_; (try clear hb); (try clear hb2); (try clear hk); (try clear hi)) | ((with_reducible refine gate_dst (N := 11) rfl ?_); refine box_event ?hg (N := 11) ?hd (cs := #[.int .i64 0, .bool false]) (t := 25) ?hr ?_; (case hd => rfl); (case hg => rfl); (case hr => first | (go_simp; done) | (go_simp; rfl)); intro gb135 hg w13 hbox hb; have n0_ := Aside0.mk (below_step (by repeat (first | (with_reducible first | exact HB.out | apply below_alloc | apply pw_below_drewN | apply below_drew1) | exact HB.out)) hb); have n1_ := Aside0.mk (hbox); have n2_ := Aside0.mk ((by rw [hg]; exact (below_size (by repeat (first | (with_reducible first | exact HB.out | apply below_alloc | apply pw_below_drewN | apply below_drew1) | exact HB.out))) : w.heap.size ≤ gb135)); have n3_ := Aside0.mk ((by rw [hg]; exact (below_size (by repeat (first | (with_reducible first | exact HB.out | apply below_alloc | apply pw_below_drewN | apply below_drew1) | exact HB.out))) : w.heap.size ≤ gb135)); clear HB; have HB := n0_; have BK135 := n1_; have GW135 := n2_; have GE135 := n3_; clear n0_ n1_ n2_ n3_; clear hb hbox hg) | ((with_reducible refine gate_dst (N := 12) rfl ?_); refine box_event ?hg (N := 12) ?hd (cs := #[.int .i64 0, .bool false]) (t := 25) ?hr ?_; (case hd => rfl); (case hg => rfl); (case hr => first | (go_simp; done) | (go_simp; rfl)); intro gb136 hg w14 hbox hb; have n0_ := Aside0.mk (blk_below (g := gb135) (o := .cells #[.int .i64 0, .bool false] 25 (0, 0)) (by (with_reducible repeat (first | refine blk_drewN ?_ _ | refine blk_drew ?_ | refine blk_alloc ?_ _)); exact BK135.out) hb); have n1_ := Aside0.mk (below_step (by repeat (first | (with_reducible first | exact HB.out | apply below_alloc | apply pw_below_drewN | apply below_drew1 | refine below_set ?_ GE135.out) | exact HB.out)) hb); have n2_ := Aside0.mk (hbox); have n3_ := Aside0.mk ((by rw [hg]; exact (below_size (by repeat (first | (with_reducible first | exact HB.out | apply below_alloc | apply pw_below_drewN | apply below_drew1 | refine below_set ?_ GE135.out) | exact HB.out))) : w.heap.size ≤ gb136)); have n4_ := Aside0.mk ((by rw [hg]; exact (below_size (by repeat (first | (with_reducible first | exact HB.out | apply below_alloc | apply pw_below_drewN | apply below_drew1 | refine below_set ?_ GE135.out) | exact HB.out))) : w.heap.size ≤ gb136)); have n5_ := Aside0.mk ((by rw [hg]; exact Nat.ne_of_lt (blk_lt (g := gb135) (o := .cells #[.int .i64 0, .bool false] 25 (0, 0)) (by (with_reducible repeat (first | refine blk_drewN ?_ _ | refine blk_drew ?_ | refine blk_alloc ?_ _)); exact BK135.out)) : gb135 ≠ gb136)); have n6_ := Aside0.mk ((by rw [hg]; exact Nat.ne_of_gt (blk_lt (g := gb135) (o := .cells #[.int .i64 0, .bool false] 25 (0, 0)) (by (with_reducible repeat (first | refine blk_drewN ?_ _ | refine blk_drew ?_ | refine blk_alloc ?_ _)); exact BK135.out)) : gb136 ≠ gb135)); clear BK135; clear HB; have BK135 := n0_; have HB := n1_; have BK136 := n2_; have GW136 := n3_; have GE136 := n4_; have NB135_136 := n5_; have NB136_135 := n6_; clear n0_ n1_ n2_ n3_ n4_ n5_ n6_; clear hb hbox hg; have hnb15 := NB135_136.out; have hnc15 := NB136_135.out; have hcz16_0 : w14.cell? ⟨gb135, 0, none⟩ = some (.int .i64 0) := (blk_cell BK135.out 0).trans rfl; have hcz16_1 : w14.cell? ⟨gb135, 1, none⟩ = some (.bool false) := (blk_cell BK135.out 1).trans rfl; have hfz16_0 := blk_frozen BK135.out 0; have hfz16_1 := blk_frozen BK135.out 1; have hcz17_0 : w14.cell? ⟨gb136, 0, none⟩ = some (.int .i64 0) := (blk_cell BK136.out 0).trans rfl; have hcz17_1 : w14.cell? ⟨gb136, 1, none⟩ = some (.bool false) := (blk_cell BK136.out 1).trans rfl; have hfz17_0 := blk_frozen BK136.out 0; have hfz17_1 := blk_frozen BK136.out 1) | ((with_reducible refine gate_callee (f := 18) rfl ?_); refine goesL_ (some 34) rfl rfl Try.func18 (by kernel_rfl) rfl #[.int .i64 a0] rfl (by (try simp only [List.map_toArray, List.map_cons, List.map_nil]); first | done | rfl | (simp only [List.length_drop, List.length_take]; rfl)) ?_; (with_reducible refine (caesuraref01_Is.calls a0 t137 _ A8.out).mono ?_); rintro e w' ⟨rfl, ⟨nd, rfl⟩⟩; refine ⟨_, rfl, ?_⟩))
  (try simp only [Act.put, List.setIfInBounds_toArray, List.set_cons_zero, List.set_cons_succ])
  go_cut [13] (fun v13 wc => ∃ (kq : Nat) (x13_8 : Int), v13 = .int .i64 x13_8 ∧ Aside0 (caesuralaw01_ScalarTells.j0 kq a0 a1 t125 t126 t127 t128 t129 t130 x13_8 t131 t132 t133 t134 = some r) ∧ Aside0 (kq ≤ k) ∧ Aside0 (wc.heap[gb135]? = some (.cells #[.int .i64 t131, .bool t132] 25 (0, 0))) ∧ Aside0 (wc.heap[gb136]? = some (.cells #[.int .i64 t133, .bool t134] 25 (0, 0))) ∧ Aside0 (Below w.heap.size w wc))
  case first =>
    have H := HC9.out
    clear HC9
    by_cases c18 : t137 = true
    · subst c18
      have H1 : ((caesuraref01_Below.f a0).bind fun t138 => (caesuralaw01_ScalarTells.j0 k a0 a1 t125 t126 t127 t128 t129 t130 t138 t131 t132 t133 t134)) = some r := by rw [if_pos rfl] at H; exact H
      clear H
      have H := H1
      clear H1
      replace H := Option.bind_eq_some_iff.mp H
      obtain ⟨t138, A190, H⟩ := H
      replace H : (caesuralaw01_ScalarTells.j0 k a0 a1 t125 t126 t127 t128 t129 t130 t138 t131 t132 t133 t134) = some r := H
      have A19 := Aside0.mk A190
      clear A190
      have H' := Aside0.mk H
      clear H
      go_wp2_with (first | ((with_reducible refine gate_callee (f := 19) rfl ?_); refine goesL_ (some 36) rfl rfl Try.func19 (by kernel_rfl) rfl #[.int .i64 a0] rfl (by (try simp only [List.map_toArray, List.map_cons, List.map_nil]); first | done | rfl | (simp only [List.length_drop, List.length_take]; rfl)) ?_; (with_reducible refine (caesuraref01_Below.calls a0 t138 _ A19.out).mono ?_); rintro e w20 ⟨rfl, hb⟩; refine ⟨_, rfl, ?_⟩; have n0_ := Aside0.mk (blk_below (g := gb135) (o := .cells #[.int .i64 t131, .bool t132] 25 (0, 0)) (by (with_reducible repeat (first | refine blk_drewN ?_ _ | refine blk_drew ?_ | refine blk_alloc ?_ _)); refine blk_far ?_ NB135_136.out _; (with_reducible repeat (first | refine blk_drewN ?_ _ | refine blk_drew ?_ | refine blk_alloc ?_ _)); refine blk_far ?_ NB135_136.out _; (with_reducible repeat (first | refine blk_drewN ?_ _ | refine blk_drew ?_ | refine blk_alloc ?_ _)); refine blk_put (cs := #[.int .i64 t131, .bool false]) ?_ 1 _ rfl; (with_reducible repeat (first | refine blk_drewN ?_ _ | refine blk_drew ?_ | refine blk_alloc ?_ _)); refine blk_put (cs := #[.int .i64 0, .bool false]) ?_ 0 _ rfl; (with_reducible repeat (first | refine blk_drewN ?_ _ | refine blk_drew ?_ | refine blk_alloc ?_ _)); exact BK135.out) hb); have n1_ := Aside0.mk (blk_below (g := gb136) (o := .cells #[.int .i64 t133, .bool t134] 25 (0, 0)) (by (with_reducible repeat (first | refine blk_drewN ?_ _ | refine blk_drew ?_ | refine blk_alloc ?_ _)); refine blk_put (cs := #[.int .i64 t133, .bool false]) ?_ 1 _ rfl; (with_reducible repeat (first | refine blk_drewN ?_ _ | refine blk_drew ?_ | refine blk_alloc ?_ _)); refine blk_put (cs := #[.int .i64 0, .bool false]) ?_ 0 _ rfl; (with_reducible repeat (first | refine blk_drewN ?_ _ | refine blk_drew ?_ | refine blk_alloc ?_ _)); refine blk_far ?_ NB136_135.out _; (with_reducible repeat (first | refine blk_drewN ?_ _ | refine blk_drew ?_ | refine blk_alloc ?_ _)); refine blk_far ?_ NB136_135.out _; (with_reducible repeat (first | refine blk_drewN ?_ _ | refine blk_drew ?_ | refine blk_alloc ?_ _)); exact BK136.out) hb); have n2_ := Aside0.mk (below_step (by repeat (first | (with_reducible first | exact HB.out | apply below_alloc | apply pw_below_drewN | apply below_drew1 | refine below_set ?_ GE135.out | refine below_set ?_ GE136.out) | exact HB.out)) hb); clear BK135; clear BK136; clear HB; have BK135 := n0_; have BK136 := n1_; have HB := n2_; clear n0_ n1_ n2_; (try clear hb); (try clear hb2); (try clear hk); (try clear hi)))
      go_meet
      case rel => exact ⟨_, (t138), (by first | rfl | (simp; done) | (simp [*]; done)), H', ⟨by first | omega | exact Nat.le_refl _⟩, ⟨by (with_reducible repeat (first | refine blk_drewN ?_ _ | refine blk_drew ?_ | refine blk_alloc ?_ _)); exact BK135.out⟩, ⟨by (with_reducible repeat (first | refine blk_drewN ?_ _ | refine blk_drew ?_ | refine blk_alloc ?_ _)); exact BK136.out⟩, ⟨by repeat (first | (with_reducible first | exact HB.out | apply below_alloc | apply pw_below_drewN | apply below_drew1 | refine below_set ?_ GE135.out | refine below_set ?_ GE136.out) | exact HB.out)⟩⟩
    · replace c18 := Bool.eq_false_iff.mpr c18
      subst c18
      have H1 : (caesuralaw01_ScalarTells.j0 k a0 a1 t125 t126 t127 t128 t129 t130 0 t131 t132 t133 t134) = some r := by rw [if_neg (show ¬ (false = true) by decide)] at H; exact H
      clear H
      have H := H1
      clear H1
      have H' := Aside0.mk H
      clear H
      go_wp2
      go_meet
      case rel => exact ⟨_, (0), (by first | rfl | (simp; done) | (simp [*]; done)), H', ⟨by first | omega | exact Nat.le_refl _⟩, ⟨by (with_reducible repeat (first | refine blk_drewN ?_ _ | refine blk_drew ?_ | refine blk_alloc ?_ _)); refine blk_far ?_ NB135_136.out _; (with_reducible repeat (first | refine blk_drewN ?_ _ | refine blk_drew ?_ | refine blk_alloc ?_ _)); refine blk_far ?_ NB135_136.out _; (with_reducible repeat (first | refine blk_drewN ?_ _ | refine blk_drew ?_ | refine blk_alloc ?_ _)); refine blk_put (cs := #[.int .i64 t131, .bool false]) ?_ 1 _ rfl; (with_reducible repeat (first | refine blk_drewN ?_ _ | refine blk_drew ?_ | refine blk_alloc ?_ _)); refine blk_put (cs := #[.int .i64 0, .bool false]) ?_ 0 _ rfl; (with_reducible repeat (first | refine blk_drewN ?_ _ | refine blk_drew ?_ | refine blk_alloc ?_ _)); exact BK135.out⟩, ⟨by (with_reducible repeat (first | refine blk_drewN ?_ _ | refine blk_drew ?_ | refine blk_alloc ?_ _)); refine blk_put (cs := #[.int .i64 t133, .bool false]) ?_ 1 _ rfl; (with_reducible repeat (first | refine blk_drewN ?_ _ | refine blk_drew ?_ | refine blk_alloc ?_ _)); refine blk_put (cs := #[.int .i64 0, .bool false]) ?_ 0 _ rfl; (with_reducible repeat (first | refine blk_drewN ?_ _ | refine blk_drew ?_ | refine blk_alloc ?_ _)); refine blk_far ?_ NB136_135.out _; (with_reducible repeat (first | refine blk_drewN ?_ _ | refine blk_drew ?_ | refine blk_alloc ?_ _)); refine blk_far ?_ NB136_135.out _; (with_reducible repeat (first | refine blk_drewN ?_ _ | refine blk_drew ?_ | refine blk_alloc ?_ _)); exact BK136.out⟩, ⟨by repeat (first | (with_reducible first | exact HB.out | apply below_alloc | apply pw_below_drewN | apply below_drew1 | refine below_set ?_ GE135.out | refine below_set ?_ GE136.out) | exact HB.out)⟩⟩
  case rest =>
    clear HC9
    try clear c1
    try clear p2
    try clear c3
    try clear c13
    try clear c14
    try clear c15
    try clear c16
    try clear c17
    try clear c18
    try clear c19
    try clear hcz16_0
    try clear hcz16_1
    try clear hcz17_0
    try clear hcz17_1
    try clear hfz16_0
    try clear hfz16_1
    try clear hfz17_0
    try clear hfz17_1
    obtain ⟨kq, x13_8, rfl, HA, HJ8, BK135, BK136, HB⟩ := hcut
    cases kq with
    | zero => exact absurd HA.out (by simp [caesuralaw01_ScalarTells.j0])
    | succ kj8 =>
      have H := HA.out
      clear HA
      simp only [caesuralaw01_ScalarTells.j0] at H
      replace H := Option.bind_eq_some_iff.mp H
      obtain ⟨t139, A210, H⟩ := H
      replace H : ((caesuraref01_Is.f a0).bind fun t140 => (if (t139 == t140) = true then (if t125 = t131 then (if (t126 == t132) = true then (if t127 = t133 then (if (t128 == t134) = true then ((scalar_Count.f a0 a1).bind fun t141 => ((caesuraref01_Count.f kj8 a0 a1).bind fun t142 => (if t141 = t142 then ((caesuraref01_Is.f a0).bind fun t143 => (if (t130 == t143) = true then (if t129 = x13_8 then ((caesuralaw01_wakes.f).bind fun t144 => (some t144)) else (none)) else (none))) else (none)))) else (none)) else (none)) else (none)) else (none)) else (none))) = some r := H
      have A21 := Aside0.mk A210
      clear A210
      replace H := Option.bind_eq_some_iff.mp H
      obtain ⟨t140, A220, H⟩ := H
      replace H : (if (t139 == t140) = true then (if t125 = t131 then (if (t126 == t132) = true then (if t127 = t133 then (if (t128 == t134) = true then ((scalar_Count.f a0 a1).bind fun t141 => ((caesuraref01_Count.f kj8 a0 a1).bind fun t142 => (if t141 = t142 then ((caesuraref01_Is.f a0).bind fun t143 => (if (t130 == t143) = true then (if t129 = x13_8 then ((caesuralaw01_wakes.f).bind fun t144 => (some t144)) else (none)) else (none))) else (none)))) else (none)) else (none)) else (none)) else (none)) else (none)) = some r := H
      have A22 := Aside0.mk A220
      clear A220
      by_cases c23 : (t139 == t140) = true
      · rw [if_pos c23] at H
        have c23b0 : (t139 == t140) = true := c23
        (try (have c23b1 : decide (t139 = t140) = true := by simpa using c23))
        (try (have c23b2 : (t139 == t140) = true := by simpa using c23))
        clear c23
        by_cases c24 : t125 = t131
        · rw [if_pos c24] at H
          have c24b0 : (t125 == t131) = true := beq_iff_eq.mpr c24
          have c24b1 : (t125 != t131) = false := bne_eq_false_iff_eq.mpr c24
          clear c24
          by_cases c25 : (t126 == t132) = true
          · rw [if_pos c25] at H
            have c25b0 : (t126 == t132) = true := c25
            (try (have c25b1 : decide (t126 = t132) = true := by simpa using c25))
            (try (have c25b2 : (t126 == t132) = true := by simpa using c25))
            clear c25
            by_cases c26 : t127 = t133
            · rw [if_pos c26] at H
              have c26b0 : (t127 == t133) = true := beq_iff_eq.mpr c26
              have c26b1 : (t127 != t133) = false := bne_eq_false_iff_eq.mpr c26
              clear c26
              by_cases c27 : (t128 == t134) = true
              · rw [if_pos c27] at H
                have c27b0 : (t128 == t134) = true := c27
                (try (have c27b1 : decide (t128 = t134) = true := by simpa using c27))
                (try (have c27b2 : (t128 == t134) = true := by simpa using c27))
                clear c27
                replace H := Option.bind_eq_some_iff.mp H
                obtain ⟨t141, A280, H⟩ := H
                replace H : ((caesuraref01_Count.f kj8 a0 a1).bind fun t142 => (if t141 = t142 then ((caesuraref01_Is.f a0).bind fun t143 => (if (t130 == t143) = true then (if t129 = x13_8 then ((caesuralaw01_wakes.f).bind fun t144 => (some t144)) else (none)) else (none))) else (none))) = some r := H
                have A28 := Aside0.mk A280
                clear A280
                replace H := Option.bind_eq_some_iff.mp H
                obtain ⟨t142, A290, H⟩ := H
                replace H : (if t141 = t142 then ((caesuraref01_Is.f a0).bind fun t143 => (if (t130 == t143) = true then (if t129 = x13_8 then ((caesuralaw01_wakes.f).bind fun t144 => (some t144)) else (none)) else (none))) else (none)) = some r := H
                have A29 := Aside0.mk A290
                clear A290
                by_cases c30 : t141 = t142
                · rw [if_pos c30] at H
                  have c30b0 : (t141 == t142) = true := beq_iff_eq.mpr c30
                  have c30b1 : (t141 != t142) = false := bne_eq_false_iff_eq.mpr c30
                  clear c30
                  replace H := Option.bind_eq_some_iff.mp H
                  obtain ⟨t143, A310, H⟩ := H
                  replace H : (if (t130 == t143) = true then (if t129 = x13_8 then ((caesuralaw01_wakes.f).bind fun t144 => (some t144)) else (none)) else (none)) = some r := H
                  have A31 := Aside0.mk A310
                  clear A310
                  by_cases c32 : (t130 == t143) = true
                  · rw [if_pos c32] at H
                    have c32b0 : (t130 == t143) = true := c32
                    (try (have c32b1 : decide (t130 = t143) = true := by simpa using c32))
                    (try (have c32b2 : (t130 == t143) = true := by simpa using c32))
                    clear c32
                    by_cases c33 : t129 = x13_8
                    · rw [if_pos c33] at H
                      have c33b0 : (t129 == x13_8) = true := beq_iff_eq.mpr c33
                      have c33b1 : (t129 != x13_8) = false := bne_eq_false_iff_eq.mpr c33
                      clear c33
                      replace H := Option.bind_eq_some_iff.mp H
                      obtain ⟨t144, A340, H⟩ := H
                      replace H : (some t144) = some r := H
                      have A34 := Aside0.mk A340
                      clear A340
                      obtain rfl := Option.some.inj H
                      go_wp2_with (first | ((with_reducible refine gate_callee (f := 20) rfl ?_); refine goesL_ (some 38) rfl rfl Try.func20 (by kernel_rfl) rfl #[.int .i64 a0] rfl (by (try simp only [List.map_toArray, List.map_cons, List.map_nil]); first | done | rfl | (simp only [List.length_drop, List.length_take]; rfl)) ?_; (with_reducible refine (scalar_Is.calls a0 t139 _ A21.out).mono ?_); rintro e w' ⟨rfl, ⟨nd, rfl⟩⟩; refine ⟨_, rfl, ?_⟩) | ((with_reducible refine gate_callee (f := 18) rfl ?_); refine goesL_ (some 40) rfl rfl Try.func18 (by kernel_rfl) rfl #[.int .i64 a0] rfl (by (try simp only [List.map_toArray, List.map_cons, List.map_nil]); first | done | rfl | (simp only [List.length_drop, List.length_take]; rfl)) ?_; (with_reducible refine (caesuraref01_Is.calls a0 t140 _ A22.out).mono ?_); rintro e w' ⟨rfl, ⟨nd, rfl⟩⟩; refine ⟨_, rfl, ?_⟩; have hnb35 := NB135_136.out; have hnc35 := NB136_135.out; have hcz36_0 : wc.cell? ⟨gb135, 0, none⟩ = some (.int .i64 t131) := (blk_cell BK135.out 0).trans rfl; have hcz36_1 : wc.cell? ⟨gb135, 1, none⟩ = some (.bool t132) := (blk_cell BK135.out 1).trans rfl; have hfz36_0 := blk_frozen BK135.out 0; have hfz36_1 := blk_frozen BK135.out 1; have hcz37_0 : wc.cell? ⟨gb136, 0, none⟩ = some (.int .i64 t133) := (blk_cell BK136.out 0).trans rfl; have hcz37_1 : wc.cell? ⟨gb136, 1, none⟩ = some (.bool t134) := (blk_cell BK136.out 1).trans rfl; have hfz37_0 := blk_frozen BK136.out 0; have hfz37_1 := blk_frozen BK136.out 1) | (go_at_call 21; (with_reducible refine (scalar_Count.calls a0 a1 t141 _ A28.out).mono ?_); rintro e w38 ⟨rfl, hb⟩; have n0_ := Aside0.mk (blk_below (g := gb135) (o := .cells #[.int .i64 t131, .bool t132] 25 (0, 0)) (by (with_reducible repeat (first | refine blk_drewN ?_ _ | refine blk_drew ?_ | refine blk_alloc ?_ _)); exact BK135.out) hb); have n1_ := Aside0.mk (blk_below (g := gb136) (o := .cells #[.int .i64 t133, .bool t134] 25 (0, 0)) (by (with_reducible repeat (first | refine blk_drewN ?_ _ | refine blk_drew ?_ | refine blk_alloc ?_ _)); exact BK136.out) hb); have n2_ := Aside0.mk (below_step (by repeat (first | (with_reducible first | exact HB.out | apply below_alloc | apply pw_below_drewN | apply below_drew1 | refine below_set ?_ GE135.out | refine below_set ?_ GE136.out) | exact HB.out)) hb); clear BK135; clear BK136; clear HB; have BK135 := n0_; have BK136 := n1_; have HB := n2_; clear n0_ n1_ n2_; (try clear hb); (try clear hb2); (try clear hk); (try clear hi)) | (go_at_call 22; (with_reducible refine (caesuraref01_Count.calls kj8 a0 a1 t142 _ A29.out).mono ?_); rintro e w39 ⟨rfl, hb⟩; have n0_ := Aside0.mk (blk_below (g := gb135) (o := .cells #[.int .i64 t131, .bool t132] 25 (0, 0)) (by (with_reducible repeat (first | refine blk_drewN ?_ _ | refine blk_drew ?_ | refine blk_alloc ?_ _)); exact BK135.out) hb); have n1_ := Aside0.mk (blk_below (g := gb136) (o := .cells #[.int .i64 t133, .bool t134] 25 (0, 0)) (by (with_reducible repeat (first | refine blk_drewN ?_ _ | refine blk_drew ?_ | refine blk_alloc ?_ _)); exact BK136.out) hb); have n2_ := Aside0.mk (below_step (by repeat (first | (with_reducible first | exact HB.out | apply below_alloc | apply pw_below_drewN | apply below_drew1 | refine below_set ?_ GE135.out | refine below_set ?_ GE136.out) | exact HB.out)) hb); clear BK135; clear BK136; clear HB; have BK135 := n0_; have BK136 := n1_; have HB := n2_; clear n0_ n1_ n2_; (try clear hb); (try clear hb2); (try clear hk); (try clear hi)) | (go_at_call 18; (with_reducible refine (caesuraref01_Is.calls a0 t143 _ A31.out).mono ?_); rintro e w' ⟨rfl, ⟨nd, rfl⟩⟩) | (go_at_call 23; (with_reducible refine (caesuralaw01_wakes.calls  t144 _ A34.out).mono ?_); rintro e w40 ⟨rfl, hb⟩; have n0_ := Aside0.mk (blk_below (g := gb135) (o := .cells #[.int .i64 t131, .bool t132] 25 (0, 0)) (by (with_reducible repeat (first | refine blk_drewN ?_ _ | refine blk_drew ?_ | refine blk_alloc ?_ _)); exact BK135.out) hb); have n1_ := Aside0.mk (blk_below (g := gb136) (o := .cells #[.int .i64 t133, .bool t134] 25 (0, 0)) (by (with_reducible repeat (first | refine blk_drewN ?_ _ | refine blk_drew ?_ | refine blk_alloc ?_ _)); exact BK136.out) hb); have n2_ := Aside0.mk (below_step (by repeat (first | (with_reducible first | exact HB.out | apply below_alloc | apply pw_below_drewN | apply below_drew1 | refine below_set ?_ GE135.out | refine below_set ?_ GE136.out) | exact HB.out)) hb); clear BK135; clear BK136; clear HB; have BK135 := n0_; have BK136 := n1_; have HB := n2_; clear n0_ n1_ n2_; (try clear hb); (try clear hb2); (try clear hk); (try clear hi)))
                      go_ret
                      exact ⟨by first | rfl | (simp [errW_none, errW_some] <;> rfl) | (simp [*, errW_none, errW_some] <;> rfl), by repeat (first | (with_reducible first | exact HB.out | apply below_alloc | apply pw_below_drewN | apply below_drew1 | refine below_set ?_ GE135.out | refine below_set ?_ GE136.out) | exact HB.out)⟩
                    · rw [if_neg c33] at H
                      exact absurd H (by simp)
                  · rw [if_neg c32] at H
                    exact absurd H (by simp)
                · rw [if_neg c30] at H
                  exact absurd H (by simp)
              · rw [if_neg c27] at H
                exact absurd H (by simp)
            · rw [if_neg c26] at H
              exact absurd H (by simp)
          · rw [if_neg c25] at H
            exact absurd H (by simp)
        · rw [if_neg c24] at H
          exact absurd H (by simp)
      · rw [if_neg c23] at H
        exact absurd H (by simp)

/-- THE ONE PURE STATEMENT of caesuralaw01_ScalarTells. -/
def caesuralaw01_ScalarTells.Pure : Prop := ∀ (x0 : Int) (x1 : Int), (Lit.int .i64 x0).wf = true → (Lit.int .i64 x1).wf = true → ∃ k, caesuralaw01_ScalarTells.f k x0 x1 = some true

/-! ### caesuralaw01_ScalarWalks: function 4 -/
def caesuralaw01_ScalarWalks.j0 : Nat → Int → Int → Int → Bool → Bool → Option (Bool)
  | 0, _, _, _, _, _ => none
  | k + 1, x0, x3, x5, x6, x39 => if x39 = true then (none) else ((scalar_Is.f x0).bind fun t151 => (if t151 = true then ((scalar_Index.f x0).bind fun bt155 => ((scalar_Index.f x3).bind fun bt157 => (if x6 = true then (if x5 = x0 then (if bt155.2 = true then (if bt157.2 = true then (if bt157.1 = (wrap64 (bt155.1 + 1)) then ((scalar_Count.f x0 x3).bind fun t159 => (if t159 = 2 then ((scalar_Count.f 0 x0).bind fun t160 => (if t160 = (wrap64 (bt155.1 + 1)) then ((caesuralaw01_wakes.f).bind fun t161 => (some t161)) else (none))) else (none))) else (none)) else (none)) else (none)) else (none)) else (none)))) else (if x6 = true then (if x5 < x0 then ((caesuralaw01_wakes.f).bind fun t152 => (some t152)) else (if x0 < 0 then ((caesuralaw01_wakes.f).bind fun t153 => (some t153)) else (none))) else ((caesuralaw01_wakes.f).bind fun t154 => (some t154)))))
def caesuralaw01_ScalarWalks.f (k : Nat) (a0 : Int) : Option (Bool) := (scalar_Next.f a0).bind fun bt145 => (if bt145.2 = true then ((scalar_Prev.f bt145.1).bind fun bt148 => ((scalar_Is.f bt145.1).bind fun t150 => (if t150 = true then (caesuralaw01_ScalarWalks.j0 k a0 bt145.1 bt148.1 bt148.2 (decide (bt145.1 ≤ a0))) else (caesuralaw01_ScalarWalks.j0 k a0 bt145.1 bt148.1 bt148.2 true)))) else (if bt145.1 = 0 then (if a0 ≥ 1114111 then ((caesuralaw01_wakes.f).bind fun t147 => (some t147)) else (none)) else (none)))
theorem caesuralaw01_ScalarWalks.mono_l : ∀ k, (∀ y0 y1 y2 y3 y4, LeO (caesuralaw01_ScalarWalks.j0 k y0 y1 y2 y3 y4) (caesuralaw01_ScalarWalks.j0 (k + 1) y0 y1 y2 y3 y4))
  | 0 => fun _ _ _ _ _ r h => by simp [caesuralaw01_ScalarWalks.j0] at h
  | k + 1 => by
    have ih0 := caesuralaw01_ScalarWalks.mono_l k
    · intro y0 y1 y2 y3 y4
      unfold caesuralaw01_ScalarWalks.j0
      repeat' first
      | (with_reducible exact ih0 _ _ _ _ _)
      | (with_reducible exact LeO.refl _)
      | (with_reducible exact LeO.none _)
      | (with_reducible refine LeO.ite ?_ ?_)
      | (with_reducible refine LeO.bind ?_ (fun _ => ?_))
      | exact ih0 _ _ _ _ _
      | exact LeO.none _
      | refine LeO.ite ?_ ?_
      | refine LeO.bind ?_ (fun _ => ?_)
theorem caesuralaw01_ScalarWalks.mono : ∀ a0 k, LeO (caesuralaw01_ScalarWalks.f k a0) (caesuralaw01_ScalarWalks.f (k + 1) a0) := by
  intro a0 k
  have ih0 := caesuralaw01_ScalarWalks.mono_l k
  unfold caesuralaw01_ScalarWalks.f
  repeat' first
      | (with_reducible exact ih0 _ _ _ _ _)
      | (with_reducible exact LeO.refl _)
      | (with_reducible exact LeO.none _)
      | (with_reducible refine LeO.ite ?_ ?_)
      | (with_reducible refine LeO.bind ?_ (fun _ => ?_))
      | exact ih0 _ _ _ _ _
      | exact LeO.none _
      | refine LeO.ite ?_ ?_
      | refine LeO.bind ?_ (fun _ => ?_)
set_option maxHeartbeats 8000000 in
set_option maxRecDepth 100000 in
theorem caesuralaw01_ScalarWalks.calls (k : Nat) (a0 : Int) (r : Bool) (w : World) (h : caesuralaw01_ScalarWalks.f k a0 = some r) :
    Calls Try.prog 4 #[.int .i64 a0] w fun e w' => e = .returned (.bool r) ∧ Below w.heap.size w w' := by
  have HB := Aside0.mk (Below.refl w.heap.size w)
  have H : ((scalar_Next.f a0).bind fun bt145 => (if bt145.2 = true then ((scalar_Prev.f bt145.1).bind fun bt148 => ((scalar_Is.f bt145.1).bind fun t150 => (if t150 = true then (caesuralaw01_ScalarWalks.j0 k a0 bt145.1 bt148.1 bt148.2 (decide (bt145.1 ≤ a0))) else (caesuralaw01_ScalarWalks.j0 k a0 bt145.1 bt148.1 bt148.2 true)))) else (if bt145.1 = 0 then (if a0 ≥ 1114111 then ((caesuralaw01_wakes.f).bind fun t147 => (some t147)) else (none)) else (none)))) = some r := h
  clear h
  replace H := Option.bind_eq_some_iff.mp H
  obtain ⟨⟨t145, t146⟩, A20, H⟩ := H
  replace H : (if t146 = true then ((scalar_Prev.f t145).bind fun bt148 => ((scalar_Is.f t145).bind fun t150 => (if t150 = true then (caesuralaw01_ScalarWalks.j0 k a0 t145 bt148.1 bt148.2 (decide (t145 ≤ a0))) else (caesuralaw01_ScalarWalks.j0 k a0 t145 bt148.1 bt148.2 true)))) else (if t145 = 0 then (if a0 ≥ 1114111 then ((caesuralaw01_wakes.f).bind fun t147 => (some t147)) else (none)) else (none))) = some r := H
  have A2 := Aside0.mk A20
  clear A20
  by_cases c3 : t146 = true
  · subst c3
    have H1 : ((scalar_Prev.f t145).bind fun bt148 => ((scalar_Is.f t145).bind fun t150 => (if t150 = true then (caesuralaw01_ScalarWalks.j0 k a0 t145 bt148.1 bt148.2 (decide (t145 ≤ a0))) else (caesuralaw01_ScalarWalks.j0 k a0 t145 bt148.1 bt148.2 true)))) = some r := by rw [if_pos rfl] at H; exact H
    clear H
    have H := H1
    clear H1
    replace H := Option.bind_eq_some_iff.mp H
    obtain ⟨⟨t148, t149⟩, A40, H⟩ := H
    replace H : ((scalar_Is.f t145).bind fun t150 => (if t150 = true then (caesuralaw01_ScalarWalks.j0 k a0 t145 t148 t149 (decide (t145 ≤ a0))) else (caesuralaw01_ScalarWalks.j0 k a0 t145 t148 t149 true))) = some r := H
    have A4 := Aside0.mk A40
    clear A40
    have HC5 := Aside0.mk H
    clear H
    go_enter Try.func4, Try.ntmps4
    go_upto_region 5 with (first | ((with_reducible refine gate_callee (f := 13) rfl ?_); refine goesL_ (some 13) rfl rfl Try.func13 (by kernel_rfl) rfl #[.int .i64 a0] rfl (by (try simp only [List.map_toArray, List.map_cons, List.map_nil]); first | done | rfl | (simp only [List.length_drop, List.length_take]; rfl)) ?_; (with_reducible refine (scalar_Next.calls a0 t145 true _ A2.out).mono ?_); rintro e w' ⟨rfl, ⟨nd, rfl⟩⟩; refine ⟨_, rfl, ?_⟩) | ((with_reducible refine gate_callee (f := 14) rfl ?_); refine goesL_ (some 29) rfl rfl Try.func14 (by kernel_rfl) rfl #[.int .i64 t145] rfl (by (try simp only [List.map_toArray, List.map_cons, List.map_nil]); first | done | rfl | (simp only [List.length_drop, List.length_take]; rfl)) ?_; (with_reducible refine (scalar_Prev.calls t145 t148 t149 _ A4.out).mono ?_); rintro e w' ⟨rfl, ⟨nd, rfl⟩⟩; refine ⟨_, rfl, ?_⟩))
    (try simp only [Act.put, List.setIfInBounds_toArray, List.set_cons_zero, List.set_cons_succ])
    go_cut [39] (fun v39 wc => ∃ (kq : Nat) (x39_4 : Bool), v39 = .bool x39_4 ∧ Aside0 (caesuralaw01_ScalarWalks.j0 kq a0 t145 t148 t149 x39_4 = some r) ∧ Aside0 (kq ≤ k) ∧ Aside0 (Below w.heap.size w wc))
    case first =>
      have H := HC5.out
      clear HC5
      replace H := Option.bind_eq_some_iff.mp H
      obtain ⟨t150, A60, H⟩ := H
      replace H : (if t150 = true then (caesuralaw01_ScalarWalks.j0 k a0 t145 t148 t149 (decide (t145 ≤ a0))) else (caesuralaw01_ScalarWalks.j0 k a0 t145 t148 t149 true)) = some r := H
      have A6 := Aside0.mk A60
      clear A60
      by_cases c7 : t150 = true
      · subst c7
        have H1 : (caesuralaw01_ScalarWalks.j0 k a0 t145 t148 t149 (decide (t145 ≤ a0))) = some r := by rw [if_pos rfl] at H; exact H
        clear H
        have H := H1
        clear H1
        have H' := Aside0.mk H
        clear H
        go_wp2_with (first | ((with_reducible refine gate_callee (f := 20) rfl ?_); refine goesL_ (some 33) rfl rfl Try.func20 (by kernel_rfl) rfl #[.int .i64 t145] rfl (by (try simp only [List.map_toArray, List.map_cons, List.map_nil]); first | done | rfl | (simp only [List.length_drop, List.length_take]; rfl)) ?_; (with_reducible refine (scalar_Is.calls t145 true _ A6.out).mono ?_); rintro e w' ⟨rfl, ⟨nd, rfl⟩⟩; refine ⟨_, rfl, ?_⟩))
        go_meet
        case rel => exact ⟨_, (decide (t145 ≤ a0)), (by first | rfl | (simp; done) | (simp [*]; done)), H', ⟨by first | omega | exact Nat.le_refl _⟩, ⟨by repeat (first | (with_reducible first | exact HB.out | apply below_alloc | apply pw_below_drewN | apply below_drew1) | exact HB.out)⟩⟩
      · replace c7 := Bool.eq_false_iff.mpr c7
        subst c7
        have H1 : (caesuralaw01_ScalarWalks.j0 k a0 t145 t148 t149 true) = some r := by rw [if_neg (show ¬ (false = true) by decide)] at H; exact H
        clear H
        have H := H1
        clear H1
        have H' := Aside0.mk H
        clear H
        go_wp2_with (first | ((with_reducible refine gate_callee (f := 20) rfl ?_); refine goesL_ (some 33) rfl rfl Try.func20 (by kernel_rfl) rfl #[.int .i64 t145] rfl (by (try simp only [List.map_toArray, List.map_cons, List.map_nil]); first | done | rfl | (simp only [List.length_drop, List.length_take]; rfl)) ?_; (with_reducible refine (scalar_Is.calls t145 false _ A6.out).mono ?_); rintro e w' ⟨rfl, ⟨nd, rfl⟩⟩; refine ⟨_, rfl, ?_⟩))
        go_meet
        case rel => exact ⟨_, (true), (by first | rfl | (simp; done) | (simp [*]; done)), H', ⟨by first | omega | exact Nat.le_refl _⟩, ⟨by repeat (first | (with_reducible first | exact HB.out | apply below_alloc | apply pw_below_drewN | apply below_drew1) | exact HB.out)⟩⟩
    case rest =>
      clear HC5
      try clear c1
      try clear c2
      try clear p2
      try clear c3
      try clear c4
      try clear c7
      obtain ⟨kq, x39_4, rfl, HA, HJ4, HB⟩ := hcut
      cases kq with
      | zero => exact absurd HA.out (by simp [caesuralaw01_ScalarWalks.j0])
      | succ kj4 =>
        have H := HA.out
        clear HA
        simp only [caesuralaw01_ScalarWalks.j0] at H
        by_cases c8 : x39_4 = true
        · subst c8
          have H1 : (none) = some r := by rw [if_pos rfl] at H; exact H
          clear H
          have H := H1
          clear H1
          exact absurd H (by simp)
        · replace c8 := Bool.eq_false_iff.mpr c8
          subst c8
          have H1 : ((scalar_Is.f a0).bind fun t151 => (if t151 = true then ((scalar_Index.f a0).bind fun bt155 => ((scalar_Index.f t145).bind fun bt157 => (if t149 = true then (if t148 = a0 then (if bt155.2 = true then (if bt157.2 = true then (if bt157.1 = (wrap64 (bt155.1 + 1)) then ((scalar_Count.f a0 t145).bind fun t159 => (if t159 = 2 then ((scalar_Count.f 0 a0).bind fun t160 => (if t160 = (wrap64 (bt155.1 + 1)) then ((caesuralaw01_wakes.f).bind fun t161 => (some t161)) else (none))) else (none))) else (none)) else (none)) else (none)) else (none)) else (none)))) else (if t149 = true then (if t148 < a0 then ((caesuralaw01_wakes.f).bind fun t152 => (some t152)) else (if a0 < 0 then ((caesuralaw01_wakes.f).bind fun t153 => (some t153)) else (none))) else ((caesuralaw01_wakes.f).bind fun t154 => (some t154))))) = some r := by rw [if_neg (show ¬ (false = true) by decide)] at H; exact H
          clear H
          have H := H1
          clear H1
          replace H := Option.bind_eq_some_iff.mp H
          obtain ⟨t151, A90, H⟩ := H
          replace H : (if t151 = true then ((scalar_Index.f a0).bind fun bt155 => ((scalar_Index.f t145).bind fun bt157 => (if t149 = true then (if t148 = a0 then (if bt155.2 = true then (if bt157.2 = true then (if bt157.1 = (wrap64 (bt155.1 + 1)) then ((scalar_Count.f a0 t145).bind fun t159 => (if t159 = 2 then ((scalar_Count.f 0 a0).bind fun t160 => (if t160 = (wrap64 (bt155.1 + 1)) then ((caesuralaw01_wakes.f).bind fun t161 => (some t161)) else (none))) else (none))) else (none)) else (none)) else (none)) else (none)) else (none)))) else (if t149 = true then (if t148 < a0 then ((caesuralaw01_wakes.f).bind fun t152 => (some t152)) else (if a0 < 0 then ((caesuralaw01_wakes.f).bind fun t153 => (some t153)) else (none))) else ((caesuralaw01_wakes.f).bind fun t154 => (some t154)))) = some r := H
          have A9 := Aside0.mk A90
          clear A90
          by_cases c10 : t151 = true
          · subst c10
            have H1 : ((scalar_Index.f a0).bind fun bt155 => ((scalar_Index.f t145).bind fun bt157 => (if t149 = true then (if t148 = a0 then (if bt155.2 = true then (if bt157.2 = true then (if bt157.1 = (wrap64 (bt155.1 + 1)) then ((scalar_Count.f a0 t145).bind fun t159 => (if t159 = 2 then ((scalar_Count.f 0 a0).bind fun t160 => (if t160 = (wrap64 (bt155.1 + 1)) then ((caesuralaw01_wakes.f).bind fun t161 => (some t161)) else (none))) else (none))) else (none)) else (none)) else (none)) else (none)) else (none)))) = some r := by rw [if_pos rfl] at H; exact H
            clear H
            have H := H1
            clear H1
            replace H := Option.bind_eq_some_iff.mp H
            obtain ⟨⟨t155, t156⟩, A110, H⟩ := H
            replace H : ((scalar_Index.f t145).bind fun bt157 => (if t149 = true then (if t148 = a0 then (if t156 = true then (if bt157.2 = true then (if bt157.1 = (wrap64 (t155 + 1)) then ((scalar_Count.f a0 t145).bind fun t159 => (if t159 = 2 then ((scalar_Count.f 0 a0).bind fun t160 => (if t160 = (wrap64 (t155 + 1)) then ((caesuralaw01_wakes.f).bind fun t161 => (some t161)) else (none))) else (none))) else (none)) else (none)) else (none)) else (none)) else (none))) = some r := H
            have A11 := Aside0.mk A110
            clear A110
            replace H := Option.bind_eq_some_iff.mp H
            obtain ⟨⟨t157, t158⟩, A120, H⟩ := H
            replace H : (if t149 = true then (if t148 = a0 then (if t156 = true then (if t158 = true then (if t157 = (wrap64 (t155 + 1)) then ((scalar_Count.f a0 t145).bind fun t159 => (if t159 = 2 then ((scalar_Count.f 0 a0).bind fun t160 => (if t160 = (wrap64 (t155 + 1)) then ((caesuralaw01_wakes.f).bind fun t161 => (some t161)) else (none))) else (none))) else (none)) else (none)) else (none)) else (none)) else (none)) = some r := H
            have A12 := Aside0.mk A120
            clear A120
            by_cases c13 : t149 = true
            · subst c13
              have H1 : (if t148 = a0 then (if t156 = true then (if t158 = true then (if t157 = (wrap64 (t155 + 1)) then ((scalar_Count.f a0 t145).bind fun t159 => (if t159 = 2 then ((scalar_Count.f 0 a0).bind fun t160 => (if t160 = (wrap64 (t155 + 1)) then ((caesuralaw01_wakes.f).bind fun t161 => (some t161)) else (none))) else (none))) else (none)) else (none)) else (none)) else (none)) = some r := by rw [if_pos rfl] at H; exact H
              clear H
              have H := H1
              clear H1
              by_cases c14 : t148 = a0
              · rw [if_pos c14] at H
                have c14b0 : (t148 == a0) = true := beq_iff_eq.mpr c14
                have c14b1 : (t148 != a0) = false := bne_eq_false_iff_eq.mpr c14
                clear c14
                by_cases c15 : t156 = true
                · subst c15
                  have H1 : (if t158 = true then (if t157 = (wrap64 (t155 + 1)) then ((scalar_Count.f a0 t145).bind fun t159 => (if t159 = 2 then ((scalar_Count.f 0 a0).bind fun t160 => (if t160 = (wrap64 (t155 + 1)) then ((caesuralaw01_wakes.f).bind fun t161 => (some t161)) else (none))) else (none))) else (none)) else (none)) = some r := by rw [if_pos rfl] at H; exact H
                  clear H
                  have H := H1
                  clear H1
                  by_cases c16 : t158 = true
                  · subst c16
                    have H1 : (if t157 = (wrap64 (t155 + 1)) then ((scalar_Count.f a0 t145).bind fun t159 => (if t159 = 2 then ((scalar_Count.f 0 a0).bind fun t160 => (if t160 = (wrap64 (t155 + 1)) then ((caesuralaw01_wakes.f).bind fun t161 => (some t161)) else (none))) else (none))) else (none)) = some r := by rw [if_pos rfl] at H; exact H
                    clear H
                    have H := H1
                    clear H1
                    by_cases c17 : t157 = (wrap64 (t155 + 1))
                    · rw [if_pos c17] at H
                      have c17b0 : (t157 == (wrap64 (t155 + 1))) = true := beq_iff_eq.mpr c17
                      have c17b1 : (t157 != (wrap64 (t155 + 1))) = false := bne_eq_false_iff_eq.mpr c17
                      clear c17
                      replace H := Option.bind_eq_some_iff.mp H
                      obtain ⟨t159, A180, H⟩ := H
                      replace H : (if t159 = 2 then ((scalar_Count.f 0 a0).bind fun t160 => (if t160 = (wrap64 (t155 + 1)) then ((caesuralaw01_wakes.f).bind fun t161 => (some t161)) else (none))) else (none)) = some r := H
                      have A18 := Aside0.mk A180
                      clear A180
                      by_cases c19 : t159 = 2
                      · rw [if_pos c19] at H
                        have c19b0 : (t159 == 2) = true := beq_iff_eq.mpr c19
                        have c19b1 : (t159 != 2) = false := bne_eq_false_iff_eq.mpr c19
                        clear c19
                        replace H := Option.bind_eq_some_iff.mp H
                        obtain ⟨t160, A200, H⟩ := H
                        replace H : (if t160 = (wrap64 (t155 + 1)) then ((caesuralaw01_wakes.f).bind fun t161 => (some t161)) else (none)) = some r := H
                        have A20 := Aside0.mk A200
                        clear A200
                        by_cases c21 : t160 = (wrap64 (t155 + 1))
                        · rw [if_pos c21] at H
                          have c21b0 : (t160 == (wrap64 (t155 + 1))) = true := beq_iff_eq.mpr c21
                          have c21b1 : (t160 != (wrap64 (t155 + 1))) = false := bne_eq_false_iff_eq.mpr c21
                          clear c21
                          replace H := Option.bind_eq_some_iff.mp H
                          obtain ⟨t161, A220, H⟩ := H
                          replace H : (some t161) = some r := H
                          have A22 := Aside0.mk A220
                          clear A220
                          obtain rfl := Option.some.inj H
                          go_wp2_with (first | ((with_reducible refine gate_callee (f := 20) rfl ?_); refine goesL_ (some 41) rfl rfl Try.func20 (by kernel_rfl) rfl #[.int .i64 a0] rfl (by (try simp only [List.map_toArray, List.map_cons, List.map_nil]); first | done | rfl | (simp only [List.length_drop, List.length_take]; rfl)) ?_; (with_reducible refine (scalar_Is.calls a0 true _ A9.out).mono ?_); rintro e w' ⟨rfl, ⟨nd, rfl⟩⟩; refine ⟨_, rfl, ?_⟩) | ((with_reducible refine gate_callee (f := 15) rfl ?_); refine goesL_ (some 59) rfl rfl Try.func15 (by kernel_rfl) rfl #[.int .i64 a0] rfl (by (try simp only [List.map_toArray, List.map_cons, List.map_nil]); first | done | rfl | (simp only [List.length_drop, List.length_take]; rfl)) ?_; (with_reducible refine (scalar_Index.calls a0 t155 true _ A11.out).mono ?_); rintro e w23 ⟨rfl, hb⟩; refine ⟨_, rfl, ?_⟩; have n0_ := Aside0.mk (below_step (by repeat (first | (with_reducible first | exact HB.out | apply below_alloc | apply pw_below_drewN | apply below_drew1) | exact HB.out)) hb); clear HB; have HB := n0_; clear n0_; (try clear hb); (try clear hb2); (try clear hk); (try clear hi)) | ((with_reducible refine gate_callee (f := 15) rfl ?_); refine goesL_ (some 64) rfl rfl Try.func15 (by kernel_rfl) rfl #[.int .i64 t145] rfl (by (try simp only [List.map_toArray, List.map_cons, List.map_nil]); first | done | rfl | (simp only [List.length_drop, List.length_take]; rfl)) ?_; (with_reducible refine (scalar_Index.calls t145 t157 true _ A12.out).mono ?_); rintro e w24 ⟨rfl, hb⟩; refine ⟨_, rfl, ?_⟩; have n0_ := Aside0.mk (below_step (by repeat (first | (with_reducible first | exact HB.out | apply below_alloc | apply pw_below_drewN | apply below_drew1) | exact HB.out)) hb); clear HB; have HB := n0_; clear n0_; (try clear hb); (try clear hb2); (try clear hk); (try clear hi)) | (go_at_call 21; (with_reducible refine (scalar_Count.calls a0 t145 t159 _ A18.out).mono ?_); rintro e w25 ⟨rfl, hb⟩; have n0_ := Aside0.mk (below_step (by repeat (first | (with_reducible first | exact HB.out | apply below_alloc | apply pw_below_drewN | apply below_drew1) | exact HB.out)) hb); clear HB; have HB := n0_; clear n0_; (try clear hb); (try clear hb2); (try clear hk); (try clear hi)) | (go_at_call 21; (with_reducible refine (scalar_Count.calls 0 a0 t160 _ A20.out).mono ?_); rintro e w26 ⟨rfl, hb⟩; have n0_ := Aside0.mk (below_step (by repeat (first | (with_reducible first | exact HB.out | apply below_alloc | apply pw_below_drewN | apply below_drew1) | exact HB.out)) hb); clear HB; have HB := n0_; clear n0_; (try clear hb); (try clear hb2); (try clear hk); (try clear hi)) | (go_at_call 23; (with_reducible refine (caesuralaw01_wakes.calls  t161 _ A22.out).mono ?_); rintro e w27 ⟨rfl, hb⟩; have n0_ := Aside0.mk (below_step (by repeat (first | (with_reducible first | exact HB.out | apply below_alloc | apply pw_below_drewN | apply below_drew1) | exact HB.out)) hb); clear HB; have HB := n0_; clear n0_; (try clear hb); (try clear hb2); (try clear hk); (try clear hi)))
                          go_ret
                          exact ⟨by first | rfl | (simp [errW_none, errW_some] <;> rfl) | (simp [*, errW_none, errW_some] <;> rfl), by repeat (first | (with_reducible first | exact HB.out | apply below_alloc | apply pw_below_drewN | apply below_drew1) | exact HB.out)⟩
                        · rw [if_neg c21] at H
                          exact absurd H (by simp)
                      · rw [if_neg c19] at H
                        exact absurd H (by simp)
                    · rw [if_neg c17] at H
                      exact absurd H (by simp)
                  · replace c16 := Bool.eq_false_iff.mpr c16
                    subst c16
                    have H1 : (none) = some r := by rw [if_neg (show ¬ (false = true) by decide)] at H; exact H
                    clear H
                    have H := H1
                    clear H1
                    exact absurd H (by simp)
                · replace c15 := Bool.eq_false_iff.mpr c15
                  subst c15
                  have H1 : (none) = some r := by rw [if_neg (show ¬ (false = true) by decide)] at H; exact H
                  clear H
                  have H := H1
                  clear H1
                  exact absurd H (by simp)
              · rw [if_neg c14] at H
                exact absurd H (by simp)
            · replace c13 := Bool.eq_false_iff.mpr c13
              subst c13
              have H1 : (none) = some r := by rw [if_neg (show ¬ (false = true) by decide)] at H; exact H
              clear H
              have H := H1
              clear H1
              exact absurd H (by simp)
          · replace c10 := Bool.eq_false_iff.mpr c10
            subst c10
            have H1 : (if t149 = true then (if t148 < a0 then ((caesuralaw01_wakes.f).bind fun t152 => (some t152)) else (if a0 < 0 then ((caesuralaw01_wakes.f).bind fun t153 => (some t153)) else (none))) else ((caesuralaw01_wakes.f).bind fun t154 => (some t154))) = some r := by rw [if_neg (show ¬ (false = true) by decide)] at H; exact H
            clear H
            have H := H1
            clear H1
            by_cases c28 : t149 = true
            · subst c28
              have H1 : (if t148 < a0 then ((caesuralaw01_wakes.f).bind fun t152 => (some t152)) else (if a0 < 0 then ((caesuralaw01_wakes.f).bind fun t153 => (some t153)) else (none))) = some r := by rw [if_pos rfl] at H; exact H
              clear H
              have H := H1
              clear H1
              by_cases c29 : t148 < a0
              · rw [if_pos c29] at H
                have c29b0 : decide (t148 < a0) = true := decide_eq_true c29
                clear c29
                replace H := Option.bind_eq_some_iff.mp H
                obtain ⟨t152, A300, H⟩ := H
                replace H : (some t152) = some r := H
                have A30 := Aside0.mk A300
                clear A300
                obtain rfl := Option.some.inj H
                go_wp2_with (first | ((with_reducible refine gate_callee (f := 20) rfl ?_); refine goesL_ (some 41) rfl rfl Try.func20 (by kernel_rfl) rfl #[.int .i64 a0] rfl (by (try simp only [List.map_toArray, List.map_cons, List.map_nil]); first | done | rfl | (simp only [List.length_drop, List.length_take]; rfl)) ?_; (with_reducible refine (scalar_Is.calls a0 false _ A9.out).mono ?_); rintro e w' ⟨rfl, ⟨nd, rfl⟩⟩; refine ⟨_, rfl, ?_⟩) | (go_at_call 23; (with_reducible refine (caesuralaw01_wakes.calls  t152 _ A30.out).mono ?_); rintro e w31 ⟨rfl, hb⟩; have n0_ := Aside0.mk (below_step (by repeat (first | (with_reducible first | exact HB.out | apply below_alloc | apply pw_below_drewN | apply below_drew1) | exact HB.out)) hb); clear HB; have HB := n0_; clear n0_; (try clear hb); (try clear hb2); (try clear hk); (try clear hi)))
                go_ret
                exact ⟨by first | rfl | (simp [errW_none, errW_some] <;> rfl) | (simp [*, errW_none, errW_some] <;> rfl), by repeat (first | (with_reducible first | exact HB.out | apply below_alloc | apply pw_below_drewN | apply below_drew1) | exact HB.out)⟩
              · rw [if_neg c29] at H
                have c29b0 : decide (t148 < a0) = false := decide_eq_false c29
                clear c29
                by_cases c32 : a0 < 0
                · rw [if_pos c32] at H
                  have c32b0 : decide (a0 < 0) = true := decide_eq_true c32
                  clear c32
                  replace H := Option.bind_eq_some_iff.mp H
                  obtain ⟨t153, A330, H⟩ := H
                  replace H : (some t153) = some r := H
                  have A33 := Aside0.mk A330
                  clear A330
                  obtain rfl := Option.some.inj H
                  go_wp2_with (first | ((with_reducible refine gate_callee (f := 20) rfl ?_); refine goesL_ (some 41) rfl rfl Try.func20 (by kernel_rfl) rfl #[.int .i64 a0] rfl (by (try simp only [List.map_toArray, List.map_cons, List.map_nil]); first | done | rfl | (simp only [List.length_drop, List.length_take]; rfl)) ?_; (with_reducible refine (scalar_Is.calls a0 false _ A9.out).mono ?_); rintro e w' ⟨rfl, ⟨nd, rfl⟩⟩; refine ⟨_, rfl, ?_⟩) | (go_at_call 23; (with_reducible refine (caesuralaw01_wakes.calls  t153 _ A33.out).mono ?_); rintro e w34 ⟨rfl, hb⟩; have n0_ := Aside0.mk (below_step (by repeat (first | (with_reducible first | exact HB.out | apply below_alloc | apply pw_below_drewN | apply below_drew1) | exact HB.out)) hb); clear HB; have HB := n0_; clear n0_; (try clear hb); (try clear hb2); (try clear hk); (try clear hi)))
                  go_ret
                  exact ⟨by first | rfl | (simp [errW_none, errW_some] <;> rfl) | (simp [*, errW_none, errW_some] <;> rfl), by repeat (first | (with_reducible first | exact HB.out | apply below_alloc | apply pw_below_drewN | apply below_drew1) | exact HB.out)⟩
                · rw [if_neg c32] at H
                  exact absurd H (by simp)
            · replace c28 := Bool.eq_false_iff.mpr c28
              subst c28
              have H1 : ((caesuralaw01_wakes.f).bind fun t154 => (some t154)) = some r := by rw [if_neg (show ¬ (false = true) by decide)] at H; exact H
              clear H
              have H := H1
              clear H1
              replace H := Option.bind_eq_some_iff.mp H
              obtain ⟨t154, A350, H⟩ := H
              replace H : (some t154) = some r := H
              have A35 := Aside0.mk A350
              clear A350
              obtain rfl := Option.some.inj H
              go_wp2_with (first | ((with_reducible refine gate_callee (f := 20) rfl ?_); refine goesL_ (some 41) rfl rfl Try.func20 (by kernel_rfl) rfl #[.int .i64 a0] rfl (by (try simp only [List.map_toArray, List.map_cons, List.map_nil]); first | done | rfl | (simp only [List.length_drop, List.length_take]; rfl)) ?_; (with_reducible refine (scalar_Is.calls a0 false _ A9.out).mono ?_); rintro e w' ⟨rfl, ⟨nd, rfl⟩⟩; refine ⟨_, rfl, ?_⟩) | (go_at_call 23; (with_reducible refine (caesuralaw01_wakes.calls  t154 _ A35.out).mono ?_); rintro e w36 ⟨rfl, hb⟩; have n0_ := Aside0.mk (below_step (by repeat (first | (with_reducible first | exact HB.out | apply below_alloc | apply pw_below_drewN | apply below_drew1) | exact HB.out)) hb); clear HB; have HB := n0_; clear n0_; (try clear hb); (try clear hb2); (try clear hk); (try clear hi)))
              go_ret
              exact ⟨by first | rfl | (simp [errW_none, errW_some] <;> rfl) | (simp [*, errW_none, errW_some] <;> rfl), by repeat (first | (with_reducible first | exact HB.out | apply below_alloc | apply pw_below_drewN | apply below_drew1) | exact HB.out)⟩
  · replace c3 := Bool.eq_false_iff.mpr c3
    subst c3
    have H1 : (if t145 = 0 then (if a0 ≥ 1114111 then ((caesuralaw01_wakes.f).bind fun t147 => (some t147)) else (none)) else (none)) = some r := by rw [if_neg (show ¬ (false = true) by decide)] at H; exact H
    clear H
    have H := H1
    clear H1
    by_cases c37 : t145 = 0
    · rw [if_pos c37] at H
      have c37b0 : (t145 == 0) = true := beq_iff_eq.mpr c37
      have c37b1 : (t145 != 0) = false := bne_eq_false_iff_eq.mpr c37
      clear c37
      by_cases c38 : a0 ≥ 1114111
      · rw [if_pos c38] at H
        have c38b0 : decide (1114111 ≤ a0) = true := decide_eq_true c38
        clear c38
        replace H := Option.bind_eq_some_iff.mp H
        obtain ⟨t147, A390, H⟩ := H
        replace H : (some t147) = some r := H
        have A39 := Aside0.mk A390
        clear A390
        obtain rfl := Option.some.inj H
        go_enter Try.func4, Try.ntmps4
        go_wp2_with (first | ((with_reducible refine gate_callee (f := 13) rfl ?_); refine goesL_ (some 13) rfl rfl Try.func13 (by kernel_rfl) rfl #[.int .i64 a0] rfl (by (try simp only [List.map_toArray, List.map_cons, List.map_nil]); first | done | rfl | (simp only [List.length_drop, List.length_take]; rfl)) ?_; (with_reducible refine (scalar_Next.calls a0 t145 false _ A2.out).mono ?_); rintro e w' ⟨rfl, ⟨nd, rfl⟩⟩; refine ⟨_, rfl, ?_⟩) | (go_at_call 23; (with_reducible refine (caesuralaw01_wakes.calls  t147 _ A39.out).mono ?_); rintro e w40 ⟨rfl, hb⟩; have n0_ := Aside0.mk (below_step (by repeat (first | (with_reducible first | exact HB.out | apply below_alloc | apply pw_below_drewN | apply below_drew1) | exact HB.out)) hb); clear HB; have HB := n0_; clear n0_; (try clear hb); (try clear hb2); (try clear hk); (try clear hi)))
        go_ret
        exact ⟨by first | rfl | (simp [errW_none, errW_some] <;> rfl) | (simp [*, errW_none, errW_some] <;> rfl), by repeat (first | (with_reducible first | exact HB.out | apply below_alloc | apply pw_below_drewN | apply below_drew1) | exact HB.out)⟩
      · rw [if_neg c38] at H
        exact absurd H (by simp)
    · rw [if_neg c37] at H
      exact absurd H (by simp)

/-- THE ONE PURE STATEMENT of caesuralaw01_ScalarWalks. -/
def caesuralaw01_ScalarWalks.Pure : Prop := ∀ (x0 : Int), (Lit.int .i64 x0).wf = true → ∃ k, caesuralaw01_ScalarWalks.f k x0 = some true

/-! ### caesuralaw01_ScalarCounts: function 5 -/
def caesuralaw01_ScalarCounts.j0 : Nat → Int → Int → Int → Int → Option (Bool)
  | 0, _, _, _, _ => none
  | k + 1, x0, x1, x2, x7 => (scalar_Count.f x0 x1).bind fun t163 => ((scalar_Count.f x1 x2).bind fun t164 => ((scalar_Count.f x0 x2).bind fun t165 => (if (wrap64 ((wrap64 (t163 + t164)) - x7)) = t165 then ((scalar_Count.f 0 1114111).bind fun t166 => (if t166 = 1112064 then ((scalar_Count.f 55296 57343).bind fun t167 => (if t167 = 0 then ((caesuralaw01_wakes.f).bind fun t168 => (some t168)) else (none))) else (none))) else (none))))
def caesuralaw01_ScalarCounts.f (k : Nat) (a0 : Int) (a1 : Int) (a2 : Int) : Option (Bool) := (scalar_Is.f (mx (mn a0 a1) (mn (mx a0 a1) a2))).bind fun t162 => (if t162 = true then (caesuralaw01_ScalarCounts.j0 k (mn (mn a0 a1) a2) (mx (mn a0 a1) (mn (mx a0 a1) a2)) (mx (mx a0 a1) a2) 1) else (caesuralaw01_ScalarCounts.j0 k (mn (mn a0 a1) a2) (mx (mn a0 a1) (mn (mx a0 a1) a2)) (mx (mx a0 a1) a2) 0))
theorem caesuralaw01_ScalarCounts.mono_l : ∀ k, (∀ y0 y1 y2 y3, LeO (caesuralaw01_ScalarCounts.j0 k y0 y1 y2 y3) (caesuralaw01_ScalarCounts.j0 (k + 1) y0 y1 y2 y3))
  | 0 => fun _ _ _ _ r h => by simp [caesuralaw01_ScalarCounts.j0] at h
  | k + 1 => by
    have ih0 := caesuralaw01_ScalarCounts.mono_l k
    · intro y0 y1 y2 y3
      unfold caesuralaw01_ScalarCounts.j0
      repeat' first
      | (with_reducible exact ih0 _ _ _ _)
      | (with_reducible exact LeO.refl _)
      | (with_reducible exact LeO.none _)
      | (with_reducible refine LeO.ite ?_ ?_)
      | (with_reducible refine LeO.bind ?_ (fun _ => ?_))
      | exact ih0 _ _ _ _
      | exact LeO.none _
      | refine LeO.ite ?_ ?_
      | refine LeO.bind ?_ (fun _ => ?_)
theorem caesuralaw01_ScalarCounts.mono : ∀ a0 a1 a2 k, LeO (caesuralaw01_ScalarCounts.f k a0 a1 a2) (caesuralaw01_ScalarCounts.f (k + 1) a0 a1 a2) := by
  intro a0 a1 a2 k
  have ih0 := caesuralaw01_ScalarCounts.mono_l k
  unfold caesuralaw01_ScalarCounts.f
  repeat' first
      | (with_reducible exact ih0 _ _ _ _)
      | (with_reducible exact LeO.refl _)
      | (with_reducible exact LeO.none _)
      | (with_reducible refine LeO.ite ?_ ?_)
      | (with_reducible refine LeO.bind ?_ (fun _ => ?_))
      | exact ih0 _ _ _ _
      | exact LeO.none _
      | refine LeO.ite ?_ ?_
      | refine LeO.bind ?_ (fun _ => ?_)
set_option maxHeartbeats 8000000 in
set_option maxRecDepth 100000 in
theorem caesuralaw01_ScalarCounts.calls (k : Nat) (a0 : Int) (a1 : Int) (a2 : Int) (r : Bool) (w : World) (h : caesuralaw01_ScalarCounts.f k a0 a1 a2 = some r) :
    Calls Try.prog 5 #[.int .i64 a0, .int .i64 a1, .int .i64 a2] w fun e w' => e = .returned (.bool r) ∧ Below w.heap.size w w' := by
  have HB := Aside0.mk (Below.refl w.heap.size w)
  have H : ((scalar_Is.f (mx (mn a0 a1) (mn (mx a0 a1) a2))).bind fun t162 => (if t162 = true then (caesuralaw01_ScalarCounts.j0 k (mn (mn a0 a1) a2) (mx (mn a0 a1) (mn (mx a0 a1) a2)) (mx (mx a0 a1) a2) 1) else (caesuralaw01_ScalarCounts.j0 k (mn (mn a0 a1) a2) (mx (mn a0 a1) (mn (mx a0 a1) a2)) (mx (mx a0 a1) a2) 0))) = some r := h
  clear h
  obtain ⟨ji4, hji4⟩ : ∃ j_ : Int, (mn a0 a1) = j_ := ⟨_, rfl⟩
  replace H : ((scalar_Is.f (mx (ji4) (mn (mx a0 a1) a2))).bind fun t162 => (if t162 = true then (caesuralaw01_ScalarCounts.j0 k (mn (ji4) a2) (mx (ji4) (mn (mx a0 a1) a2)) (mx (mx a0 a1) a2) 1) else (caesuralaw01_ScalarCounts.j0 k (mn (ji4) a2) (mx (ji4) (mn (mx a0 a1) a2)) (mx (mx a0 a1) a2) 0))) = some r := by first | (rw [hji4] at H; exact H) | (simp only [hji4] at H ⊢; exact H)
  have hji4_ : (if a1 < a0 then a1 else a0) = ji4 := hji4
  obtain ⟨ji5, hji5⟩ : ∃ j_ : Int, (mn (ji4) a2) = j_ := ⟨_, rfl⟩
  replace H : ((scalar_Is.f (mx (ji4) (mn (mx a0 a1) a2))).bind fun t162 => (if t162 = true then (caesuralaw01_ScalarCounts.j0 k ji5 (mx (ji4) (mn (mx a0 a1) a2)) (mx (mx a0 a1) a2) 1) else (caesuralaw01_ScalarCounts.j0 k ji5 (mx (ji4) (mn (mx a0 a1) a2)) (mx (mx a0 a1) a2) 0))) = some r := by first | (rw [hji5] at H; exact H) | (simp only [hji5] at H ⊢; exact H)
  have hji5_ : (if a2 < (ji4) then a2 else (ji4)) = ji5 := hji5
  obtain ⟨ji6, hji6⟩ : ∃ j_ : Int, (mx a0 a1) = j_ := ⟨_, rfl⟩
  replace H : ((scalar_Is.f (mx (ji4) (mn (ji6) a2))).bind fun t162 => (if t162 = true then (caesuralaw01_ScalarCounts.j0 k ji5 (mx (ji4) (mn (ji6) a2)) (mx (ji6) a2) 1) else (caesuralaw01_ScalarCounts.j0 k ji5 (mx (ji4) (mn (ji6) a2)) (mx (ji6) a2) 0))) = some r := by first | (rw [hji6] at H; exact H) | (simp only [hji6] at H ⊢; exact H)
  have hji6_ : (if a0 < a1 then a1 else a0) = ji6 := hji6
  obtain ⟨ji7, hji7⟩ : ∃ j_ : Int, (mn (ji6) a2) = j_ := ⟨_, rfl⟩
  replace H : ((scalar_Is.f (mx (ji4) (ji7))).bind fun t162 => (if t162 = true then (caesuralaw01_ScalarCounts.j0 k ji5 (mx (ji4) (ji7)) (mx (ji6) a2) 1) else (caesuralaw01_ScalarCounts.j0 k ji5 (mx (ji4) (ji7)) (mx (ji6) a2) 0))) = some r := by first | (rw [hji7] at H; exact H) | (simp only [hji7] at H ⊢; exact H)
  have hji7_ : (if a2 < (ji6) then a2 else (ji6)) = ji7 := hji7
  obtain ⟨ji8, hji8⟩ : ∃ j_ : Int, (mx (ji4) (ji7)) = j_ := ⟨_, rfl⟩
  replace H : ((scalar_Is.f (ji8)).bind fun t162 => (if t162 = true then (caesuralaw01_ScalarCounts.j0 k ji5 ji8 (mx (ji6) a2) 1) else (caesuralaw01_ScalarCounts.j0 k ji5 ji8 (mx (ji6) a2) 0))) = some r := by first | (rw [hji8] at H; exact H) | (simp only [hji8] at H ⊢; exact H)
  have hji8_ : (if (ji4) < (ji7) then (ji7) else (ji4)) = ji8 := hji8
  obtain ⟨ji9, hji9⟩ : ∃ j_ : Int, (mx (ji6) a2) = j_ := ⟨_, rfl⟩
  replace H : ((scalar_Is.f (ji8)).bind fun t162 => (if t162 = true then (caesuralaw01_ScalarCounts.j0 k ji5 ji8 ji9 1) else (caesuralaw01_ScalarCounts.j0 k ji5 ji8 ji9 0))) = some r := by first | (rw [hji9] at H; exact H) | (simp only [hji9] at H ⊢; exact H)
  have hji9_ : (if (ji6) < a2 then a2 else (ji6)) = ji9 := hji9
  replace H := Option.bind_eq_some_iff.mp H
  obtain ⟨t162, A100, H⟩ := H
  replace H : (if t162 = true then (caesuralaw01_ScalarCounts.j0 k ji5 ji8 ji9 1) else (caesuralaw01_ScalarCounts.j0 k ji5 ji8 ji9 0)) = some r := H
  have A10 := Aside0.mk A100
  clear A100
  have HC11 := Aside0.mk H
  clear H
  go_enter Try.func5, Try.ntmps5
  go_upto_if 26 with (first | ((with_reducible refine gate_callee (f := 20) rfl ?_); refine goesL_ (some 26) rfl rfl Try.func20 (by kernel_rfl) rfl #[.int .i64 ji8] rfl (by (try simp only [List.map_toArray, List.map_cons, List.map_nil]); first | done | (simp only [hji8]; rfl) | rfl | (simp only [List.length_drop, List.length_take]; rfl)) ?_; (with_reducible refine (scalar_Is.calls ji8 t162 _ A10.out).mono ?_); rintro e w' ⟨rfl, ⟨nd, rfl⟩⟩; refine ⟨_, rfl, ?_⟩))
  (try simp only [Act.put, List.setIfInBounds_toArray, List.set_cons_zero, List.set_cons_succ])
  go_cut [7] (fun v7 wc => ∃ (kq : Nat) (x7_10 : Int), v7 = .int .i64 x7_10 ∧ Aside0 (caesuralaw01_ScalarCounts.j0 kq ji5 ji8 ji9 x7_10 = some r) ∧ Aside0 (kq ≤ k) ∧ Aside0 (Below w.heap.size w wc))
  case first =>
    have H := HC11.out
    clear HC11
    by_cases c12 : t162 = true
    · subst c12
      have H1 : (caesuralaw01_ScalarCounts.j0 k ji5 ji8 ji9 1) = some r := by rw [if_pos rfl] at H; exact H
      clear H
      have H := H1
      clear H1
      have H' := Aside0.mk H
      clear H
      go_wp2
      go_meet
      case rel => exact ⟨_, (1), (by first | rfl | (simp; done) | (simp [*]; done)), H', ⟨by first | omega | exact Nat.le_refl _⟩, ⟨by repeat (first | (with_reducible first | exact HB.out | apply below_alloc | apply pw_below_drewN | apply below_drew1) | exact HB.out)⟩⟩
    · replace c12 := Bool.eq_false_iff.mpr c12
      subst c12
      have H1 : (caesuralaw01_ScalarCounts.j0 k ji5 ji8 ji9 0) = some r := by rw [if_neg (show ¬ (false = true) by decide)] at H; exact H
      clear H
      have H := H1
      clear H1
      have H' := Aside0.mk H
      clear H
      go_wp2
      go_meet
      case rel => exact ⟨_, (0), (by first | rfl | (simp; done) | (simp [*]; done)), H', ⟨by first | omega | exact Nat.le_refl _⟩, ⟨by repeat (first | (with_reducible first | exact HB.out | apply below_alloc | apply pw_below_drewN | apply below_drew1) | exact HB.out)⟩⟩
  case rest =>
    clear HC11
    try clear c1
    try clear c2
    try clear p2
    try clear c5
    try clear c12
    obtain ⟨kq, x7_10, rfl, HA, HJ10, HB⟩ := hcut
    cases kq with
    | zero => exact absurd HA.out (by simp [caesuralaw01_ScalarCounts.j0])
    | succ kj10 =>
      have H := HA.out
      clear HA
      simp only [caesuralaw01_ScalarCounts.j0] at H
      replace H := Option.bind_eq_some_iff.mp H
      obtain ⟨t163, A130, H⟩ := H
      replace H : ((scalar_Count.f ji8 ji9).bind fun t164 => ((scalar_Count.f ji5 ji9).bind fun t165 => (if (wrap64 ((wrap64 (t163 + t164)) - x7_10)) = t165 then ((scalar_Count.f 0 1114111).bind fun t166 => (if t166 = 1112064 then ((scalar_Count.f 55296 57343).bind fun t167 => (if t167 = 0 then ((caesuralaw01_wakes.f).bind fun t168 => (some t168)) else (none))) else (none))) else (none)))) = some r := H
      have A13 := Aside0.mk A130
      clear A130
      replace H := Option.bind_eq_some_iff.mp H
      obtain ⟨t164, A140, H⟩ := H
      replace H : ((scalar_Count.f ji5 ji9).bind fun t165 => (if (wrap64 ((wrap64 (t163 + t164)) - x7_10)) = t165 then ((scalar_Count.f 0 1114111).bind fun t166 => (if t166 = 1112064 then ((scalar_Count.f 55296 57343).bind fun t167 => (if t167 = 0 then ((caesuralaw01_wakes.f).bind fun t168 => (some t168)) else (none))) else (none))) else (none))) = some r := H
      have A14 := Aside0.mk A140
      clear A140
      replace H := Option.bind_eq_some_iff.mp H
      obtain ⟨t165, A150, H⟩ := H
      replace H : (if (wrap64 ((wrap64 (t163 + t164)) - x7_10)) = t165 then ((scalar_Count.f 0 1114111).bind fun t166 => (if t166 = 1112064 then ((scalar_Count.f 55296 57343).bind fun t167 => (if t167 = 0 then ((caesuralaw01_wakes.f).bind fun t168 => (some t168)) else (none))) else (none))) else (none)) = some r := H
      have A15 := Aside0.mk A150
      clear A150
      by_cases c16 : (wrap64 ((wrap64 (t163 + t164)) - x7_10)) = t165
      · rw [if_pos c16] at H
        have c16b0 : ((wrap64 ((wrap64 (t163 + t164)) - x7_10)) == t165) = true := beq_iff_eq.mpr c16
        have c16b1 : ((wrap64 ((wrap64 (t163 + t164)) - x7_10)) != t165) = false := bne_eq_false_iff_eq.mpr c16
        clear c16
        replace H := Option.bind_eq_some_iff.mp H
        obtain ⟨t166, A170, H⟩ := H
        replace H : (if t166 = 1112064 then ((scalar_Count.f 55296 57343).bind fun t167 => (if t167 = 0 then ((caesuralaw01_wakes.f).bind fun t168 => (some t168)) else (none))) else (none)) = some r := H
        have A17 := Aside0.mk A170
        clear A170
        by_cases c18 : t166 = 1112064
        · rw [if_pos c18] at H
          have c18b0 : (t166 == 1112064) = true := beq_iff_eq.mpr c18
          have c18b1 : (t166 != 1112064) = false := bne_eq_false_iff_eq.mpr c18
          clear c18
          replace H := Option.bind_eq_some_iff.mp H
          obtain ⟨t167, A190, H⟩ := H
          replace H : (if t167 = 0 then ((caesuralaw01_wakes.f).bind fun t168 => (some t168)) else (none)) = some r := H
          have A19 := Aside0.mk A190
          clear A190
          by_cases c20 : t167 = 0
          · rw [if_pos c20] at H
            have c20b0 : (t167 == 0) = true := beq_iff_eq.mpr c20
            have c20b1 : (t167 != 0) = false := bne_eq_false_iff_eq.mpr c20
            clear c20
            replace H := Option.bind_eq_some_iff.mp H
            obtain ⟨t168, A210, H⟩ := H
            replace H : (some t168) = some r := H
            have A21 := Aside0.mk A210
            clear A210
            obtain rfl := Option.some.inj H
            go_wp2_with (first | ((with_reducible refine gate_callee (f := 21) rfl ?_); refine goesL_ (some 29) rfl rfl Try.func21 (by kernel_rfl) rfl #[.int .i64 ji5, .int .i64 ji8] rfl (by (try simp only [List.map_toArray, List.map_cons, List.map_nil]); first | done | (simp only [hji5, hji8]; rfl) | rfl | (simp only [List.length_drop, List.length_take]; rfl)) ?_; (with_reducible refine (scalar_Count.calls ji5 ji8 t163 _ A13.out).mono ?_); rintro e w22 ⟨rfl, hb⟩; refine ⟨_, rfl, ?_⟩; have n0_ := Aside0.mk (below_step (by repeat (first | (with_reducible first | exact HB.out | apply below_alloc | apply pw_below_drewN | apply below_drew1) | exact HB.out)) hb); clear HB; have HB := n0_; clear n0_; (try clear hb); (try clear hb2); (try clear hk); (try clear hi)) | ((with_reducible refine gate_callee (f := 21) rfl ?_); refine goesL_ (some 32) rfl rfl Try.func21 (by kernel_rfl) rfl #[.int .i64 ji8, .int .i64 ji9] rfl (by (try simp only [List.map_toArray, List.map_cons, List.map_nil]); first | done | (simp only [hji8, hji9]; rfl) | rfl | (simp only [List.length_drop, List.length_take]; rfl)) ?_; (with_reducible refine (scalar_Count.calls ji8 ji9 t164 _ A14.out).mono ?_); rintro e w23 ⟨rfl, hb⟩; refine ⟨_, rfl, ?_⟩; have n0_ := Aside0.mk (below_step (by repeat (first | (with_reducible first | exact HB.out | apply below_alloc | apply pw_below_drewN | apply below_drew1) | exact HB.out)) hb); clear HB; have HB := n0_; clear n0_; (try clear hb); (try clear hb2); (try clear hk); (try clear hi)) | ((with_reducible refine gate_callee (f := 21) rfl ?_); refine goesL_ (some 38) rfl rfl Try.func21 (by kernel_rfl) rfl #[.int .i64 ji5, .int .i64 ji9] rfl (by (try simp only [List.map_toArray, List.map_cons, List.map_nil]); first | done | (simp only [hji5, hji9]; rfl) | rfl | (simp only [List.length_drop, List.length_take]; rfl)) ?_; (with_reducible refine (scalar_Count.calls ji5 ji9 t165 _ A15.out).mono ?_); rintro e w24 ⟨rfl, hb⟩; refine ⟨_, rfl, ?_⟩; have n0_ := Aside0.mk (below_step (by repeat (first | (with_reducible first | exact HB.out | apply below_alloc | apply pw_below_drewN | apply below_drew1) | exact HB.out)) hb); clear HB; have HB := n0_; clear n0_; (try clear hb); (try clear hb2); (try clear hk); (try clear hi)) | (go_at_call 21; (with_reducible refine (scalar_Count.calls 0 1114111 t166 _ A17.out).mono ?_); rintro e w25 ⟨rfl, hb⟩; have n0_ := Aside0.mk (below_step (by repeat (first | (with_reducible first | exact HB.out | apply below_alloc | apply pw_below_drewN | apply below_drew1) | exact HB.out)) hb); clear HB; have HB := n0_; clear n0_; (try clear hb); (try clear hb2); (try clear hk); (try clear hi)) | (go_at_call 21; (with_reducible refine (scalar_Count.calls 55296 57343 t167 _ A19.out).mono ?_); rintro e w26 ⟨rfl, hb⟩; have n0_ := Aside0.mk (below_step (by repeat (first | (with_reducible first | exact HB.out | apply below_alloc | apply pw_below_drewN | apply below_drew1) | exact HB.out)) hb); clear HB; have HB := n0_; clear n0_; (try clear hb); (try clear hb2); (try clear hk); (try clear hi)) | (go_at_call 23; (with_reducible refine (caesuralaw01_wakes.calls  t168 _ A21.out).mono ?_); rintro e w27 ⟨rfl, hb⟩; have n0_ := Aside0.mk (below_step (by repeat (first | (with_reducible first | exact HB.out | apply below_alloc | apply pw_below_drewN | apply below_drew1) | exact HB.out)) hb); clear HB; have HB := n0_; clear n0_; (try clear hb); (try clear hb2); (try clear hk); (try clear hi)))
            go_ret
            exact ⟨by first | rfl | (simp [errW_none, errW_some] <;> rfl) | (simp only [← hji4, ← hji5, ← hji6, ← hji7, ← hji8, ← hji9]; first | rfl | (simp [errW_none, errW_some] <;> rfl)) | (simp [*, errW_none, errW_some] <;> rfl), by repeat (first | (with_reducible first | exact HB.out | apply below_alloc | apply pw_below_drewN | apply below_drew1) | exact HB.out)⟩
          · rw [if_neg c20] at H
            exact absurd H (by simp)
        · rw [if_neg c18] at H
          exact absurd H (by simp)
      · rw [if_neg c16] at H
        exact absurd H (by simp)

/-- THE ONE PURE STATEMENT of caesuralaw01_ScalarCounts. -/
def caesuralaw01_ScalarCounts.Pure : Prop := ∀ (x0 : Int) (x1 : Int) (x2 : Int), (Lit.int .i64 x0).wf = true → (Lit.int .i64 x1).wf = true → (Lit.int .i64 x2).wf = true → ∃ k, caesuralaw01_ScalarCounts.f k x0 x1 x2 = some true

end Go.Proofs.Ytoilaibpmepecaa.X
