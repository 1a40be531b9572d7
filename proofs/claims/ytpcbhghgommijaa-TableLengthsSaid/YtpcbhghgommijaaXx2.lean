/- Functions of the program as Lean functions, and that the program comes to their answers (written by this session's own program, wip/x/xprint.py; Lean checks it). -/
import Derived.Test.YtpcbhghgommijaaXx0
import Derived.Test.YtpcbhghgommijaaXFn
namespace Go.Proofs.Ytpcbhghgommijaa.X
open Go.RowKit Go.Proofs.YtpcbhghgommijaaW.PrintWords Go.Proofs.YtpcbhghgommijaaW.PrintLast Go.Proofs.YtpcbhghgommijaaW.PrintMore
attribute [local go_sem] max2_int min2_int max_two min_two max_three min_three max_four min_four   -- for this text's walks alone
set_option linter.unusedVariables false
set_option linter.unusedSimpArgs false

open Go.Proofs.Ytpcbhghgommijaa.XMac
/-! ### caesurakeep_LargeLists: function 23 -/
def caesurakeep_LargeLists.l0 : Nat → List (List Int) → Int → Int → Int → Option (Bool)
 | 0, _, _, _, _ => none
 | k + 1, x0, x1, x5, x6 => if x6 < (x0.length : Int) then (if x5 ≤ x1 then (if 0 ≤ x6 then (caesurakeep_LargeLists.l0 k x0 x1 (wrap64 (x5 + (wrap64 (1 + (mn ((rd_L1 x0 x6).length : Int) x1))))) (wrap64 (x6 + 1))) else (none)) else (some (decide (x5 > x1)))) else (some (decide (x5 > x1)))
def caesurakeep_LargeLists.f (k : Nat) (l0 : List (List Int)) (a1 : Int) : Option (Bool) := caesurakeep_LargeLists.l0 k l0 a1 0 0
theorem caesurakeep_LargeLists.mono_l : ∀ k, (∀ y0 y1 y2 y3, LeO (caesurakeep_LargeLists.l0 k y0 y1 y2 y3) (caesurakeep_LargeLists.l0 (k + 1) y0 y1 y2 y3))
 | 0 => fun _ _ _ _ r h => by simp [caesurakeep_LargeLists.l0] at h
 | k + 1 => by
  have ih0 := caesurakeep_LargeLists.mono_l k
  ·intro y0 y1 y2 y3
   unfold caesurakeep_LargeLists.l0
   repeat' first
   | (with_reducible exact ih0 _ _ _ _)
   | (with_reducible exact LeO.refl _)
   | (with_reducible exact LeO.none _)
   | (with_reducible refine LeO.ite ?_ ?_)
   | (with_reducible refine LeO.bind ?_ (fun _ => ?_))
   | exact ih0 _ _ _ _
   | exact LeO.none _
   | refine LeO.ite ?_ ?_
   | refine LeO.bind ?_ (fun _ => ?_)
theorem caesurakeep_LargeLists.mono : ∀ a0 a1 k, LeO (caesurakeep_LargeLists.f k a0 a1) (caesurakeep_LargeLists.f (k + 1) a0 a1) := by
 intro a0 a1 k
 have ih0 := caesurakeep_LargeLists.mono_l k
 unfold caesurakeep_LargeLists.f
 repeat' first
   | (with_reducible exact ih0 _ _ _ _)
   | (with_reducible exact LeO.refl _)
   | (with_reducible exact LeO.none _)
   | (with_reducible refine LeO.ite ?_ ?_)
   | (with_reducible refine LeO.bind ?_ (fun _ => ?_))
   | exact ih0 _ _ _ _
   | exact LeO.none _
   | refine LeO.ite ?_ ?_
   | refine LeO.bind ?_ (fun _ => ?_)
set_option maxHeartbeats 8000000 in
set_option maxRecDepth 100000 in
theorem caesurakeep_LargeLists.calls (k : Nat) (A0 : Option Addr) (c0 : Nat) (l0 : List (List Int)) (a1 : Int) (r : Bool) (w : World) (hr0 : Kd.C (Kd.slice 3 (Kd.int .i64)) w A0 l0.length l0) (hc0 : l0.length ≤ c0) (h : caesurakeep_LargeLists.f k l0 a1 = some r) :
  Calls Try.prog 23 #[.slice A0 l0.length c0, .int .i64 a1] w fun e w' => e = .returned (.bool r) ∧ Below w.heap.size w w' := by
 have HR0 := Aside0.mk hr0
 have HC0 := Aside0.mk hc0
 clear hr0 hc0
 have HB := Aside0.mk (Below.refl w.heap.size w)
 have H : (caesurakeep_LargeLists.l0 k l0 a1 0 0) = some r := h
 clear h
 have H' := Aside0.mk H
 clear H
 go_enter Try.func23, Try.ntmps23
 go_wp2
 go_loopg [5, 6] k (fun kq v5 v6 w' => ∃ (x5_1 : Int) (x6_1 : Int), v5 = .int .i64 x5_1 ∧ v6 = .int .i64 x6_1 ∧ Aside0 (caesurakeep_LargeLists.l0 kq l0 a1 x5_1 x6_1 = some r) ∧ Aside0 (kq ≤ k) ∧ Aside0 (Below w.heap.size w w'))
 case atStart => exact ⟨(0), (0), (by xrs_), (by xrs_), H', ⟨Nat.le_refl _⟩, ⟨by repeat (first | (with_reducible first | exact HB.out | apply below_alloc | apply pw_below_drewN | apply below_drew1) | exact HB.out)⟩⟩
 case round =>
  clear H'
  xcl_ c2 p2
  obtain ⟨x5_1, x6_1, rfl, rfl, HA, HK1, HB⟩ := hrel
  cases gk with
  | zero => exact absurd HA.out (by simp [caesurakeep_LargeLists.l0])
  | succ k1 =>
   have H := HA.out
   clear HA
   simp only [caesurakeep_LargeLists.l0] at H
   by_cases c3 : x6_1 < (l0.length : Int)
   ·rw [if_pos c3] at H
    have c3b0 : decide (x6_1 < (l0.length : Int)) = true := decide_eq_true c3
    clear c3
    by_cases c4 : x5_1 ≤ a1
    ·rw [if_pos c4] at H
     have c4b0 : decide (x5_1 ≤ a1) = true := decide_eq_true c4
     clear c4
     by_cases c5 : 0 ≤ x6_1
     ·rw [if_pos c5] at H
      have c5b0 : decide (0 ≤ x6_1) = true := decide_eq_true c5
      clear c5
      obtain ⟨ji6, hji6⟩ : ∃ j_ : Int, (mn ((rd_L1 l0 x6_1).length : Int) a1) = j_ := ⟨_, rfl⟩
      replace H : (caesurakeep_LargeLists.l0 k1 l0 a1 (wrap64 (x5_1 + (wrap64 (1 + (ji6))))) (wrap64 (x6_1 + 1))) = some r := by first | (rw [hji6] at H; exact H) | (simp only [hji6] at H ⊢; exact H)
      have hji6_ : (if a1 < ((rd_L1 l0 x6_1).length : Int) then a1 else ((rd_L1 l0 x6_1).length : Int)) = ji6 := hji6
      have H' := Aside0.mk H
      clear H
      have p101 : 0 ≤ (x6_1 : Int) := of_decide_eq_true (by xas_)
      have q101 : x6_1 < (l0.length : Int) := of_decide_eq_true (by xas_)
      obtain ⟨ad101, A101_0, c101_0, e101, hx101_0, hl101_0, hi101_0⟩ := at_L1 HR0.out x6_1 p101 q101
      cases e101
      replace hx101_0 := (HB.out.cell (World.block_lt_of_cell? w _ hx101_0)).trans hx101_0
      have HR101_0 := Aside0.mk hi101_0
      have HC101_0 := Aside0.mk hl101_0
      clear hi101_0 hl101_0
      replace p101 := eq_true p101
      replace q101 := eq_true q101
      go_wp2
      go_roundg k1
      case measure => have := HK1.out; omega
      case rel => exact ⟨(wrap64 (x5_1 + (wrap64 (1 + (ji6))))), (wrap64 (x6_1 + 1)), (by first | rfl | (simp; done) | (simp only [← hji6] <;> (first | rfl | simp)) | (simp [*]; done)), (by xrs_), H', ⟨by have := HK1.out; omega⟩, ⟨by repeat (first | (with_reducible first | exact HB.out | apply below_alloc | apply pw_below_drewN | apply below_drew1) | exact HB.out)⟩⟩
     ·rw [if_neg c5] at H
      exact absurd H (by simp)
    ·rw [if_neg c4] at H
     have c4b0 : decide (x5_1 ≤ a1) = false := decide_eq_false c4
     clear c4
     obtain rfl := Option.some.inj H
     go_wp2
     go_ret
     exact ⟨by first | rfl | (simp [errW_none, errW_some] <;> rfl) | (simp [*, errW_none, errW_some] <;> rfl), by repeat (first | (with_reducible first | exact HB.out | apply below_alloc | apply pw_below_drewN | apply below_drew1) | exact HB.out)⟩
   ·rw [if_neg c3] at H
    have c3b0 : decide (x6_1 < (l0.length : Int)) = false := decide_eq_false c3
    clear c3
    obtain rfl := Option.some.inj H
    go_wp2
    go_ret
    exact ⟨by first | rfl | (simp [errW_none, errW_some] <;> rfl) | (simp [*, errW_none, errW_some] <;> rfl), by repeat (first | (with_reducible first | exact HB.out | apply below_alloc | apply pw_below_drewN | apply below_drew1) | exact HB.out)⟩

/-! ### caesuralaw06_Large: function 9 -/
def caesuralaw06_Large.f (k : Nat) (a0_0 : Int) (l0_1 : List (S52)) (l0_2 : List (List Int)) (l0_3 : List Bool) : Option (Bool) := if (l0_1.length : Int) > 400 then (some true) else ((caesurakeep_LargeLists.f k l0_2 3000).bind fun t103 => (if t103 = true then (some true) else (some (decide ((l0_3.length : Int) > 1000)))))
theorem caesuralaw06_Large.mono : ∀ a0 a1 a2 a3 k, LeO (caesuralaw06_Large.f k a0 a1 a2 a3) (caesuralaw06_Large.f (k + 1) a0 a1 a2 a3) := by
 intro a0 a1 a2 a3 k
 unfold caesuralaw06_Large.f
 repeat' first
   | (with_reducible exact caesurakeep_LargeLists.mono _ _ _)
   | (with_reducible exact LeO.refl _)
   | (with_reducible exact LeO.none _)
   | (with_reducible refine LeO.ite ?_ ?_)
   | (with_reducible refine LeO.bind ?_ (fun _ => ?_))
   | exact caesurakeep_LargeLists.mono _ _ _
   | exact LeO.none _
   | refine LeO.ite ?_ ?_
   | refine LeO.bind ?_ (fun _ => ?_)
set_option maxHeartbeats 8000000 in
set_option maxRecDepth 100000 in
theorem caesuralaw06_Large.calls (k : Nat) (a0_0 : Int) (A0_1 : Option Addr) (c0_1 : Nat) (l0_1 : List (S52)) (A0_2 : Option Addr) (c0_2 : Nat) (l0_2 : List (List Int)) (A0_3 : Option Addr) (c0_3 : Nat) (l0_3 : List Bool) (r : Bool) (w : World) (hr0_1 : Kd.C k52 w A0_1 l0_1.length l0_1) (hc0_1 : l0_1.length ≤ c0_1) (hr0_2 : Kd.C (Kd.slice 3 (Kd.int .i64)) w A0_2 l0_2.length l0_2) (hc0_2 : l0_2.length ≤ c0_2) (hr0_3 : Kd.C Kd.bool w A0_3 l0_3.length l0_3) (hc0_3 : l0_3.length ≤ c0_3) (h : caesuralaw06_Large.f k a0_0 l0_1 l0_2 l0_3 = some r) :
  Calls Try.prog 9 #[.agg #[.int .i64 a0_0, .slice A0_1 l0_1.length c0_1, .slice A0_2 l0_2.length c0_2, .slice A0_3 l0_3.length c0_3]] w fun e w' => e = .returned (.bool r) ∧ Below w.heap.size w w' := by
 have hu26 := Try.underlying26
 have HR0_1 := Aside0.mk hr0_1
 have HC0_1 := Aside0.mk hc0_1
 clear hr0_1 hc0_1
 have HR0_2 := Aside0.mk hr0_2
 have HC0_2 := Aside0.mk hc0_2
 clear hr0_2 hc0_2
 have HR0_3 := Aside0.mk hr0_3
 have HC0_3 := Aside0.mk hc0_3
 clear hr0_3 hc0_3
 have HB := Aside0.mk (Below.refl w.heap.size w)
 have H : (if (l0_1.length : Int) > 400 then (some true) else ((caesurakeep_LargeLists.f k l0_2 3000).bind fun t103 => (if t103 = true then (some true) else (some (decide ((l0_3.length : Int) > 1000)))))) = some r := h
 clear h
 by_cases c2 : (l0_1.length : Int) > 400
 ·rw [if_pos c2] at H
  have c2b0 : decide (400 < (l0_1.length : Int)) = true := decide_eq_true c2
  have c2b1 : decide (400 < l0_1.length) = true := decide_eq_true (by omega)
  clear c2
  obtain rfl := Option.some.inj H
  go_enter Try.func9, Try.ntmps9
  go_wp2_with (first | ((with_reducible refine gate_dst (N := 1) rfl ?_); xgg_; refine box_event ?hg (N := 1) ?hd (cs := #[.int .i64 a0_0, .slice A0_1 l0_1.length c0_1, .slice A0_2 l0_2.length c0_2, .slice A0_3 l0_3.length c0_3]) (t := 26) ?hr ?_; (case hd => rfl); (case hg => rfl); (case hr => xgs_); intro gb102 hg w3 hbox hb; have n0_ := Aside0.mk (below_step (by repeat (first | (with_reducible first | exact HB.out | apply below_alloc | apply pw_below_drewN | apply below_drew1) | exact HB.out)) hb); have n1_ := Aside0.mk (hbox); have n2_ := Aside0.mk ((by rw [hg]; exact (below_size (by repeat (first | (with_reducible first | exact HB.out | apply below_alloc | apply pw_below_drewN | apply below_drew1) | exact HB.out))) : w.heap.size ≤ gb102)); have n3_ := Aside0.mk ((by rw [hg]; exact (below_size (by repeat (first | (with_reducible first | exact HB.out | apply below_alloc | apply pw_below_drewN | apply below_drew1) | exact HB.out))) : w.heap.size ≤ gb102)); clear HB; have HB := n0_; have BK102 := n1_; have GW102 := n2_; have GE102 := n3_; clear n0_ n1_ n2_ n3_; clear hb hbox hg; have hcz4_0 : w3.cell? ⟨gb102, 0, none⟩ = some (.int .i64 a0_0) := (blk_cell BK102.out 0).trans rfl; have hcz4_1 : w3.cell? ⟨gb102, 1, none⟩ = some (.slice A0_1 l0_1.length c0_1) := (blk_cell BK102.out 1).trans rfl; have hcz4_2 : w3.cell? ⟨gb102, 2, none⟩ = some (.slice A0_2 l0_2.length c0_2) := (blk_cell BK102.out 2).trans rfl; have hcz4_3 : w3.cell? ⟨gb102, 3, none⟩ = some (.slice A0_3 l0_3.length c0_3) := (blk_cell BK102.out 3).trans rfl; have hfz4_0 := blk_frozen BK102.out 0; have hfz4_1 := blk_frozen BK102.out 1; have hfz4_2 := blk_frozen BK102.out 2; have hfz4_3 := blk_frozen BK102.out 3))
  go_ret
  exact ⟨by first | rfl | (simp [errW_none, errW_some] <;> rfl) | (simp [*, errW_none, errW_some] <;> rfl), by repeat (first | (with_reducible first | exact HB.out | apply below_alloc | apply pw_below_drewN | apply below_drew1 | refine below_set ?_ GE102.out) | exact HB.out)⟩
 ·rw [if_neg c2] at H
  have c2b0 : decide (400 < (l0_1.length : Int)) = false := decide_eq_false c2
  have c2b1 : decide (400 < l0_1.length) = false := decide_eq_false (by omega)
  clear c2
  replace H := Option.bind_eq_some_iff.mp H
  obtain ⟨t103, A50, H⟩ := H
  replace H : (if t103 = true then (some true) else (some (decide ((l0_3.length : Int) > 1000)))) = some r := H
  have A5 := Aside0.mk A50
  clear A50
  by_cases c6 : t103 = true
  ·subst c6
   have H1 : (some true) = some r := by rw [if_pos rfl] at H; exact H
   clear H
   have H := H1
   clear H1
   obtain rfl := Option.some.inj H
   go_enter Try.func9, Try.ntmps9
   go_wp2_with (first | ((with_reducible refine gate_dst (N := 1) rfl ?_); xgg_; refine box_event ?hg (N := 1) ?hd (cs := #[.int .i64 a0_0, .slice A0_1 l0_1.length c0_1, .slice A0_2 l0_2.length c0_2, .slice A0_3 l0_3.length c0_3]) (t := 26) ?hr ?_; (case hd => rfl); (case hg => rfl); (case hr => xgs_); intro gb102 hg w7 hbox hb; have n0_ := Aside0.mk (below_step (by repeat (first | (with_reducible first | exact HB.out | apply below_alloc | apply pw_below_drewN | apply below_drew1) | exact HB.out)) hb); have n1_ := Aside0.mk (hbox); have n2_ := Aside0.mk ((by rw [hg]; exact (below_size (by repeat (first | (with_reducible first | exact HB.out | apply below_alloc | apply pw_below_drewN | apply below_drew1) | exact HB.out))) : w.heap.size ≤ gb102)); have n3_ := Aside0.mk ((by rw [hg]; exact (below_size (by repeat (first | (with_reducible first | exact HB.out | apply below_alloc | apply pw_below_drewN | apply below_drew1) | exact HB.out))) : w.heap.size ≤ gb102)); clear HB; have HB := n0_; have BK102 := n1_; have GW102 := n2_; have GE102 := n3_; clear n0_ n1_ n2_ n3_; clear hb hbox hg; have hcz8_0 : w7.cell? ⟨gb102, 0, none⟩ = some (.int .i64 a0_0) := (blk_cell BK102.out 0).trans rfl; have hcz8_1 : w7.cell? ⟨gb102, 1, none⟩ = some (.slice A0_1 l0_1.length c0_1) := (blk_cell BK102.out 1).trans rfl; have hcz8_2 : w7.cell? ⟨gb102, 2, none⟩ = some (.slice A0_2 l0_2.length c0_2) := (blk_cell BK102.out 2).trans rfl; have hcz8_3 : w7.cell? ⟨gb102, 3, none⟩ = some (.slice A0_3 l0_3.length c0_3) := (blk_cell BK102.out 3).trans rfl; have hfz8_0 := blk_frozen BK102.out 0; have hfz8_1 := blk_frozen BK102.out 1; have hfz8_2 := blk_frozen BK102.out 2; have hfz8_3 := blk_frozen BK102.out 3) | (go_at_call 23; (with_reducible refine (caesurakeep_LargeLists.calls k _ _ l0_2 3000 true _ ?side1 ?side2 A5.out).mono ?_); (case side1 => repeat (first | exact (Kd.C_below HR0_2.out HB.out) | xkC_)); (case side2 => exact HC0_2.out); rintro e w9 ⟨rfl, hb⟩; have n0_ := Aside0.mk (blk_below (g := gb102) (o := .cells #[.int .i64 a0_0, .slice A0_1 l0_1.length c0_1, .slice A0_2 l0_2.length c0_2, .slice A0_3 l0_3.length c0_3] 26 (0, 0)) (by xkb_; exact BK102.out) hb); have n1_ := Aside0.mk (below_step (by repeat (first | (with_reducible first | exact HB.out | apply below_alloc | apply pw_below_drewN | apply below_drew1 | refine below_set ?_ GE102.out) | exact HB.out)) hb); clear BK102; clear HB; have BK102 := n0_; have HB := n1_; clear n0_ n1_; (try clear hb); (try clear hb2); (try clear hk); (try clear hi)))
   go_ret
   exact ⟨by first | rfl | (simp [errW_none, errW_some] <;> rfl) | (simp [*, errW_none, errW_some] <;> rfl), by repeat (first | (with_reducible first | exact HB.out | apply below_alloc | apply pw_below_drewN | apply below_drew1 | refine below_set ?_ GE102.out) | exact HB.out)⟩
  ·replace c6 := Bool.eq_false_iff.mpr c6
   subst c6
   have H1 : (some (decide ((l0_3.length : Int) > 1000))) = some r := by rw [if_neg (show ¬ (false = true) by decide)] at H; exact H
   clear H
   have H := H1
   clear H1
   obtain rfl := Option.some.inj H
   go_enter Try.func9, Try.ntmps9
   go_wp2_with (first | ((with_reducible refine gate_dst (N := 1) rfl ?_); xgg_; refine box_event ?hg (N := 1) ?hd (cs := #[.int .i64 a0_0, .slice A0_1 l0_1.length c0_1, .slice A0_2 l0_2.length c0_2, .slice A0_3 l0_3.length c0_3]) (t := 26) ?hr ?_; (case hd => rfl); (case hg => rfl); (case hr => xgs_); intro gb102 hg w10 hbox hb; have n0_ := Aside0.mk (below_step (by repeat (first | (with_reducible first | exact HB.out | apply below_alloc | apply pw_below_drewN | apply below_drew1) | exact HB.out)) hb); have n1_ := Aside0.mk (hbox); have n2_ := Aside0.mk ((by rw [hg]; exact (below_size (by repeat (first | (with_reducible first | exact HB.out | apply below_alloc | apply pw_below_drewN | apply below_drew1) | exact HB.out))) : w.heap.size ≤ gb102)); have n3_ := Aside0.mk ((by rw [hg]; exact (below_size (by repeat (first | (with_reducible first | exact HB.out | apply below_alloc | apply pw_below_drewN | apply below_drew1) | exact HB.out))) : w.heap.size ≤ gb102)); clear HB; have HB := n0_; have BK102 := n1_; have GW102 := n2_; have GE102 := n3_; clear n0_ n1_ n2_ n3_; clear hb hbox hg; have hcz11_0 : w10.cell? ⟨gb102, 0, none⟩ = some (.int .i64 a0_0) := (blk_cell BK102.out 0).trans rfl; have hcz11_1 : w10.cell? ⟨gb102, 1, none⟩ = some (.slice A0_1 l0_1.length c0_1) := (blk_cell BK102.out 1).trans rfl; have hcz11_2 : w10.cell? ⟨gb102, 2, none⟩ = some (.slice A0_2 l0_2.length c0_2) := (blk_cell BK102.out 2).trans rfl; have hcz11_3 : w10.cell? ⟨gb102, 3, none⟩ = some (.slice A0_3 l0_3.length c0_3) := (blk_cell BK102.out 3).trans rfl; have hfz11_0 := blk_frozen BK102.out 0; have hfz11_1 := blk_frozen BK102.out 1; have hfz11_2 := blk_frozen BK102.out 2; have hfz11_3 := blk_frozen BK102.out 3) | (go_at_call 23; (with_reducible refine (caesurakeep_LargeLists.calls k _ _ l0_2 3000 false _ ?side1 ?side2 A5.out).mono ?_); (case side1 => repeat (first | exact (Kd.C_below HR0_2.out HB.out) | xkC_)); (case side2 => exact HC0_2.out); rintro e w12 ⟨rfl, hb⟩; have n0_ := Aside0.mk (blk_below (g := gb102) (o := .cells #[.int .i64 a0_0, .slice A0_1 l0_1.length c0_1, .slice A0_2 l0_2.length c0_2, .slice A0_3 l0_3.length c0_3] 26 (0, 0)) (by xkb_; exact BK102.out) hb); have n1_ := Aside0.mk (below_step (by repeat (first | (with_reducible first | exact HB.out | apply below_alloc | apply pw_below_drewN | apply below_drew1 | refine below_set ?_ GE102.out) | exact HB.out)) hb); clear BK102; clear HB; have BK102 := n0_; have HB := n1_; clear n0_ n1_; (try clear hb); (try clear hb2); (try clear hk); (try clear hi); have hcz13_0 : w12.cell? ⟨gb102, 0, none⟩ = some (.int .i64 a0_0) := (blk_cell BK102.out 0).trans rfl; have hcz13_1 : w12.cell? ⟨gb102, 1, none⟩ = some (.slice A0_1 l0_1.length c0_1) := (blk_cell BK102.out 1).trans rfl; have hcz13_2 : w12.cell? ⟨gb102, 2, none⟩ = some (.slice A0_2 l0_2.length c0_2) := (blk_cell BK102.out 2).trans rfl; have hcz13_3 : w12.cell? ⟨gb102, 3, none⟩ = some (.slice A0_3 l0_3.length c0_3) := (blk_cell BK102.out 3).trans rfl; have hfz13_0 := blk_frozen BK102.out 0; have hfz13_1 := blk_frozen BK102.out 1; have hfz13_2 := blk_frozen BK102.out 2; have hfz13_3 := blk_frozen BK102.out 3))
   go_ret
   exact ⟨by first | rfl | (simp [errW_none, errW_some] <;> rfl) | (simp [*, errW_none, errW_some] <;> rfl), by repeat (first | (with_reducible first | exact HB.out | apply below_alloc | apply pw_below_drewN | apply below_drew1 | refine below_set ?_ GE102.out) | exact HB.out)⟩

/-! ### table_between: function 33 -/
def table_between.f (a0 : Int) (a1 : Int) (a2 : Int) : Option (Bool) := if a0 ≥ a1 then (some (decide (a0 ≤ a2))) else (some false)
set_option maxHeartbeats 8000000 in
set_option maxRecDepth 100000 in
theorem table_between.calls (a0 : Int) (a1 : Int) (a2 : Int) (r : Bool) (w : World) (h : table_between.f a0 a1 a2 = some r) :
  Calls Try.prog 33 #[.int .i64 a0, .int .i64 a1, .int .i64 a2] w fun e w' => e = .returned (.bool r) ∧ Drawn0 w w' := by
 have H : (if a0 ≥ a1 then (some (decide (a0 ≤ a2))) else (some false)) = some r := h
 clear h
 by_cases c4 : a0 ≥ a1
 ·rw [if_pos c4] at H
  have c4b0 : decide (a1 ≤ a0) = true := decide_eq_true c4
  clear c4
  obtain rfl := Option.some.inj H
  go_enter Try.func33, Try.ntmps33
  go_wp2
  go_ret
  exact ⟨by first | rfl | (simp; done) | (simp [*]; done), by repeat (first | exact Drawn0.refl _ | apply Drawn0.step)⟩
 ·rw [if_neg c4] at H
  have c4b0 : decide (a1 ≤ a0) = false := decide_eq_false c4
  clear c4
  obtain rfl := Option.some.inj H
  go_enter Try.func33, Try.ntmps33
  go_wp2
  go_ret
  exact ⟨by first | rfl | (simp; done) | (simp [*]; done), by repeat (first | exact Drawn0.refl _ | apply Drawn0.step)⟩

-- NOT PRINTED: function 53 (slices_IndexFunc_int_int)

-- NOT PRINTED: function 46 (slices_ContainsFunc_int_int)

/-! ### table_may_1: function 47 -/
def table_may_1.f (a0 : Int) : Option (Bool) := (table_between.f a0 0 255).bind fun t104 => (some (!t104))
set_option maxHeartbeats 8000000 in
set_option maxRecDepth 100000 in
theorem table_may_1.calls (a0 : Int) (r : Bool) (w : World) (h : table_may_1.f a0 = some r) :
  Calls Try.prog 47 #[.int .i64 a0] w fun e w' => e = .returned (.bool r) ∧ Drawn0 w w' := by
 have H : ((table_between.f a0 0 255).bind fun t104 => (some (!t104))) = some r := h
 clear h
 replace H := Option.bind_eq_some_iff.mp H
 obtain ⟨t104, A20, H⟩ := H
 replace H : (some (!t104)) = some r := H
 have A2 := Aside0.mk A20
 clear A20
 obtain rfl := Option.some.inj H
 go_enter Try.func47, Try.ntmps47
 go_wp2_with (first | ((with_reducible refine gate_callee (f := 33) rfl ?_); refine goesL_ (some 4) rfl rfl Try.func33 (by kernel_rfl) rfl #[.int .i64 a0, .int .i64 0, .int .i64 255] rfl (by xlm_) ?_; (with_reducible refine (table_between.calls a0 0 255 t104 _ A2.out).mono ?_); rintro e w' ⟨rfl, ⟨nd, rfl⟩⟩; refine ⟨_, rfl, ?_⟩))
 go_ret
 exact ⟨by first | rfl | (simp; done) | (simp [*]; done), by repeat (first | exact Drawn0.refl _ | apply Drawn0.step)⟩

/-! ### slices_IndexFunc_int_int__table_may_1: function 53 -/
def slices_IndexFunc_int_int__table_may_1.l0 : Nat → List Int → Int → Int → Option (Int)
 | 0, _, _, _ => none
 | k + 1, x0, x7, x8 => if x8 < x7 then (if 0 ≤ x8 then (if x8 < (x0.length : Int) then ((table_may_1.f (rd x0 x8)).bind fun t106 => (if t106 = true then (some x8) else (slices_IndexFunc_int_int__table_may_1.l0 k x0 x7 (wrap64 (x8 + 1))))) else (none)) else (none)) else (some (-1))
def slices_IndexFunc_int_int__table_may_1.f (k : Nat) (l0 : List Int) (a1 : Int) : Option (Int) := slices_IndexFunc_int_int__table_may_1.l0 k l0 (l0.length : Int) 0
theorem slices_IndexFunc_int_int__table_may_1.mono_l : ∀ k, (∀ y0 y1 y2, LeO (slices_IndexFunc_int_int__table_may_1.l0 k y0 y1 y2) (slices_IndexFunc_int_int__table_may_1.l0 (k + 1) y0 y1 y2))
 | 0 => fun _ _ _ r h => by simp [slices_IndexFunc_int_int__table_may_1.l0] at h
 | k + 1 => by
  have ih0 := slices_IndexFunc_int_int__table_may_1.mono_l k
  ·intro y0 y1 y2
   unfold slices_IndexFunc_int_int__table_may_1.l0
   repeat' first
   | (with_reducible exact ih0 _ _ _)
   | (with_reducible exact LeO.refl _)
   | (with_reducible exact LeO.none _)
   | (with_reducible refine LeO.ite ?_ ?_)
   | (with_reducible refine LeO.bind ?_ (fun _ => ?_))
   | exact ih0 _ _ _
   | exact LeO.none _
   | refine LeO.ite ?_ ?_
   | refine LeO.bind ?_ (fun _ => ?_)
theorem slices_IndexFunc_int_int__table_may_1.mono : ∀ a0 a1 k, LeO (slices_IndexFunc_int_int__table_may_1.f k a0 a1) (slices_IndexFunc_int_int__table_may_1.f (k + 1) a0 a1) := by
 intro a0 a1 k
 have ih0 := slices_IndexFunc_int_int__table_may_1.mono_l k
 unfold slices_IndexFunc_int_int__table_may_1.f
 repeat' first
   | (with_reducible exact ih0 _ _ _)
   | (with_reducible exact LeO.refl _)
   | (with_reducible exact LeO.none _)
   | (with_reducible refine LeO.ite ?_ ?_)
   | (with_reducible refine LeO.bind ?_ (fun _ => ?_))
   | exact ih0 _ _ _
   | exact LeO.none _
   | refine LeO.ite ?_ ?_
   | refine LeO.bind ?_ (fun _ => ?_)
set_option maxHeartbeats 8000000 in
set_option maxRecDepth 100000 in
theorem slices_IndexFunc_int_int__table_may_1.calls (k : Nat) (A0 : Option Addr) (c0 : Nat) (l0 : List Int) (a1 : Int) (r : Int) (w : World) (hr0 : Kd.C (Kd.int .i64) w A0 l0.length l0) (hc0 : l0.length ≤ c0) (h : slices_IndexFunc_int_int__table_may_1.f k l0 a1 = some r) :
  Calls Try.prog 53 #[.slice A0 l0.length c0, .func (.func 47) #[] #[]] w fun e w' => e = .returned (.int .i64 r) ∧ Drawn0 w w' := by
 have HR0 := Aside0.mk hr0
 have HC0 := Aside0.mk hc0
 clear hr0 hc0
 have H : (slices_IndexFunc_int_int__table_may_1.l0 k l0 (l0.length : Int) 0) = some r := h
 clear h
 have H' := Aside0.mk H
 clear H
 go_enter Try.func53, Try.ntmps53
 go_wp2
 go_loopg [8] k (fun kq v8 w' => ∃ (x8_1 : Int), v8 = .int .i64 x8_1 ∧ Aside0 (slices_IndexFunc_int_int__table_may_1.l0 kq l0 (l0.length : Int) x8_1 = some r) ∧ Aside0 (kq ≤ k) ∧ Drawn0 w w')
 case atStart => exact ⟨(0), (by xrs_), H', ⟨Nat.le_refl _⟩, by repeat (first | exact Drawn0.refl _ | apply Drawn0.step)⟩
 case round =>
  clear H'
  xcl_ p2
  obtain ⟨x8_1, rfl, HA, HK1, ⟨m1, rfl⟩⟩ := hrel
  cases gk with
  | zero => exact absurd HA.out (by simp [slices_IndexFunc_int_int__table_may_1.l0])
  | succ k1 =>
   have H := HA.out
   clear HA
   simp only [slices_IndexFunc_int_int__table_may_1.l0] at H
   by_cases c3 : x8_1 < (l0.length : Int)
   ·rw [if_pos c3] at H
    have c3b0 : decide (x8_1 < (l0.length : Int)) = true := decide_eq_true c3
    clear c3
    by_cases c4 : 0 ≤ x8_1
    ·rw [if_pos c4] at H
     have c4b0 : decide (0 ≤ x8_1) = true := decide_eq_true c4
     clear c4
     by_cases c5 : x8_1 < (l0.length : Int)
     ·rw [if_pos c5] at H
      have c5b0 : decide (x8_1 < (l0.length : Int)) = true := decide_eq_true c5
      clear c5
      replace H := Option.bind_eq_some_iff.mp H
      obtain ⟨t106, A60, H⟩ := H
      replace H : (if t106 = true then (some x8_1) else (slices_IndexFunc_int_int__table_may_1.l0 k1 l0 (l0.length : Int) (wrap64 (x8_1 + 1)))) = some r := H
      have A6 := Aside0.mk A60
      clear A60
      by_cases c7 : t106 = true
      ·subst c7
       have H1 : (some x8_1) = some r := by rw [if_pos rfl] at H; exact H
       clear H
       have H := H1
       clear H1
       obtain rfl := Option.some.inj H
       have p105 : 0 ≤ (x8_1 : Int) := of_decide_eq_true (by xas_)
       have q105 : x8_1 < (l0.length : Int) := of_decide_eq_true (by xas_)
       obtain ⟨ad105, e105, hx105_0⟩ := Kd.at_int HR0.out x8_1 p105 q105
       cases e105
       replace p105 := eq_true p105
       replace q105 := eq_true q105
       go_wp2_with (first | ((with_reducible refine XFn.gate_calleeV (t := 11) rfl ?_); refine XFn.goesV_ (some 16) rfl rfl Try.func47 (by kernel_rfl) rfl #[.int .i64 (rd l0 x8_1)] rfl (by xlm_) ?_; (with_reducible refine (table_may_1.calls (rd l0 x8_1) true _ A6.out).mono ?_); rintro e w' ⟨rfl, ⟨nd, rfl⟩⟩; refine ⟨_, rfl, ?_⟩))
       go_ret
       exact ⟨by first | rfl | (simp; done) | (simp [*]; done), by repeat (first | exact Drawn0.refl _ | apply Drawn0.step)⟩
      ·replace c7 := Bool.eq_false_iff.mpr c7
       subst c7
       have H1 : (slices_IndexFunc_int_int__table_may_1.l0 k1 l0 (l0.length : Int) (wrap64 (x8_1 + 1))) = some r := by rw [if_neg (show ¬ (false = true) by decide)] at H; exact H
       clear H
       have H := H1
       clear H1
       have H' := Aside0.mk H
       clear H
       have p105 : 0 ≤ (x8_1 : Int) := of_decide_eq_true (by xas_)
       have q105 : x8_1 < (l0.length : Int) := of_decide_eq_true (by xas_)
       obtain ⟨ad105, e105, hx105_0⟩ := Kd.at_int HR0.out x8_1 p105 q105
       cases e105
       replace p105 := eq_true p105
       replace q105 := eq_true q105
       go_wp2_with (first | ((with_reducible refine XFn.gate_calleeV (t := 11) rfl ?_); refine XFn.goesV_ (some 16) rfl rfl Try.func47 (by kernel_rfl) rfl #[.int .i64 (rd l0 x8_1)] rfl (by xlm_) ?_; (with_reducible refine (table_may_1.calls (rd l0 x8_1) false _ A6.out).mono ?_); rintro e w' ⟨rfl, ⟨nd, rfl⟩⟩; refine ⟨_, rfl, ?_⟩))
       go_roundg k1
       case measure => have := HK1.out; omega
       case rel => exact ⟨(wrap64 (x8_1 + 1)), (by xrs_), H', ⟨by have := HK1.out; omega⟩, by repeat (first | exact Drawn0.refl _ | apply Drawn0.step)⟩
     ·rw [if_neg c5] at H
      exact absurd H (by simp)
    ·rw [if_neg c4] at H
     exact absurd H (by simp)
   ·rw [if_neg c3] at H
    have c3b0 : decide (x8_1 < (l0.length : Int)) = false := decide_eq_false c3
    clear c3
    obtain rfl := Option.some.inj H
    go_wp2
    go_ret
    exact ⟨by first | rfl | (simp; done) | (simp [*]; done), by repeat (first | exact Drawn0.refl _ | apply Drawn0.step)⟩

/-! ### slices_ContainsFunc_int_int__table_may_1: function 46 -/
def slices_ContainsFunc_int_int__table_may_1.f (k : Nat) (l0 : List Int) (a1 : Int) : Option (Bool) := (slices_IndexFunc_int_int__table_may_1.f k l0 a1).bind fun t107 => (some (decide (t107 ≥ 0)))
theorem slices_ContainsFunc_int_int__table_may_1.mono : ∀ a0 a1 k, LeO (slices_ContainsFunc_int_int__table_may_1.f k a0 a1) (slices_ContainsFunc_int_int__table_may_1.f (k + 1) a0 a1) := by
 intro a0 a1 k
 unfold slices_ContainsFunc_int_int__table_may_1.f
 repeat' first
   | (with_reducible exact slices_IndexFunc_int_int__table_may_1.mono _ _ _)
   | (with_reducible exact LeO.refl _)
   | (with_reducible exact LeO.none _)
   | (with_reducible refine LeO.ite ?_ ?_)
   | (with_reducible refine LeO.bind ?_ (fun _ => ?_))
   | exact slices_IndexFunc_int_int__table_may_1.mono _ _ _
   | exact LeO.none _
   | refine LeO.ite ?_ ?_
   | refine LeO.bind ?_ (fun _ => ?_)
set_option maxHeartbeats 8000000 in
set_option maxRecDepth 100000 in
theorem slices_ContainsFunc_int_int__table_may_1.calls (k : Nat) (A0 : Option Addr) (c0 : Nat) (l0 : List Int) (a1 : Int) (r : Bool) (w : World) (hr0 : Kd.C (Kd.int .i64) w A0 l0.length l0) (hc0 : l0.length ≤ c0) (h : slices_ContainsFunc_int_int__table_may_1.f k l0 a1 = some r) :
  Calls Try.prog 46 #[.slice A0 l0.length c0, .func (.func 47) #[] #[]] w fun e w' => e = .returned (.bool r) ∧ Drawn0 w w' := by
 have HR0 := Aside0.mk hr0
 have HC0 := Aside0.mk hc0
 clear hr0 hc0
 have H : ((slices_IndexFunc_int_int__table_may_1.f k l0 a1).bind fun t107 => (some (decide (t107 ≥ 0)))) = some r := h
 clear h
 replace H := Option.bind_eq_some_iff.mp H
 obtain ⟨t107, A30, H⟩ := H
 replace H : (some (decide (t107 ≥ 0))) = some r := H
 have A3 := Aside0.mk A30
 clear A30
 obtain rfl := Option.some.inj H
 go_enter Try.func46, Try.ntmps46
 go_wp2_with (first | ((with_reducible refine gate_callee (f := 53) rfl ?_); refine goesL_ (some 7) rfl rfl Try.func53 (by kernel_rfl) rfl #[.slice A0 l0.length c0, .func (.func 47) #[] #[]] rfl (by xlm_) ?_; (with_reducible refine (slices_IndexFunc_int_int__table_may_1.calls k _ _ l0 a1 t107 _ ?side1 ?side2 A3.out).mono ?_); (case side1 => repeat (first | exact HR0.out | xkC_)); (case side2 => exact HC0.out); rintro e w' ⟨rfl, ⟨nd, rfl⟩⟩; refine ⟨_, rfl, ?_⟩))
 go_ret
 exact ⟨by first | rfl | (simp; done) | (simp [*]; done), by repeat (first | exact Drawn0.refl _ | apply Drawn0.step)⟩

/-! ### table_may: function 25 -/
mutual
def table_may.j0 : Nat → Bool → Int → List (S52) → List (List Int) → List Bool → Option (Bool)
 | 0, _, _, _, _, _ => none
 | k + 1, x32, x109000, x109001, x109002, x109003 => if x32 = true then (some false) else (table_may.l0 k x109001 (x109001.length : Int) 0 x109000 x109001 x109002 x109003)
def table_may.l0 : Nat → List (S52) → Int → Int → Int → List (S52) → List (List Int) → List Bool → Option (Bool)
 | 0, _, _, _, _, _, _, _ => none
 | k + 1, x34, x35, x36, x109000, x109001, x109002, x109003 => if x36 < x35 then (if 0 ≤ x36 then (if x36 < (x34.length : Int) then ((table_between.f ((rd_T52 x34 x36).f0) 0 16777215).bind fun t113 => (if t113 = true then ((table_between.f ((rd_T52 x34 x36).f1) 0 255).bind fun t114 => (if t114 = true then (table_may.l0 k x34 x35 (wrap64 (x36 + 1)) x109000 x109001 x109002 x109003) else (some false))) else (some false))) else (none)) else (none)) else (table_may.l1 k x109002 (x109002.length : Int) 0 x109000 x109001 x109002 x109003)
def table_may.l1 : Nat → List (List Int) → Int → Int → Int → List (S52) → List (List Int) → List Bool → Option (Bool)
 | 0, _, _, _, _, _, _, _ => none
 | k + 1, x52, x53, x54, x109000, x109001, x109002, x109003 => if x54 < x53 then (if 0 ≤ x54 then (if x54 < (x52.length : Int) then (if ((rd_L1 x52 x54).length : Int) = x109000 then ((slices_ContainsFunc_int_int__table_may_1.f k (rd_L1 x52 x54) 0).bind fun t116 => (if t116 = true then (some false) else (table_may.l1 k x52 x53 (wrap64 (x54 + 1)) x109000 x109001 x109002 x109003))) else (some false)) else (none)) else (none)) else (some true)
end
def table_may.f (k : Nat) (a0_0 : Int) (l0_1 : List (S52)) (l0_2 : List (List Int)) (l0_3 : List Bool) : Option (Bool) := (table_between.f a0_0 1 255).bind fun t109 => (if t109 = true then ((table_between.f (l0_2.length : Int) 1 255).bind fun t110 => (if t110 = true then (if (l0_3.length : Int) = (l0_2.length : Int) then (table_may.j0 k (decide ((l0_1.length : Int) > 255)) a0_0 l0_1 l0_2 l0_3) else (table_may.j0 k true a0_0 l0_1 l0_2 l0_3)) else (table_may.j0 k true a0_0 l0_1 l0_2 l0_3))) else (table_may.j0 k true a0_0 l0_1 l0_2 l0_3))
theorem table_may.mono_l : ∀ k, (∀ y0 y1 y2 y3 y4, LeO (table_may.j0 k y0 y1 y2 y3 y4) (table_may.j0 (k + 1) y0 y1 y2 y3 y4)) ∧ (∀ y0 y1 y2 y3 y4 y5 y6, LeO (table_may.l0 k y0 y1 y2 y3 y4 y5 y6) (table_may.l0 (k + 1) y0 y1 y2 y3 y4 y5 y6)) ∧ (∀ y0 y1 y2 y3 y4 y5 y6, LeO (table_may.l1 k y0 y1 y2 y3 y4 y5 y6) (table_may.l1 (k + 1) y0 y1 y2 y3 y4 y5 y6))
 | 0 => ⟨fun _ _ _ _ _ r h => by simp [table_may.j0] at h, fun _ _ _ _ _ _ _ r h => by simp [table_may.l0] at h, fun _ _ _ _ _ _ _ r h => by simp [table_may.l1] at h⟩
 | k + 1 => by
  obtain ⟨ih0, ih1, ih2⟩ := table_may.mono_l k
  refine ⟨?_, ?_, ?_⟩
  ·intro y0 y1 y2 y3 y4
   unfold table_may.j0
   repeat' first
   | (with_reducible exact ih0 _ _ _ _ _)
   | (with_reducible exact ih1 _ _ _ _ _ _ _)
   | (with_reducible exact ih2 _ _ _ _ _ _ _)
   | (with_reducible exact slices_ContainsFunc_int_int__table_may_1.mono _ _ _)
   | (with_reducible exact LeO.refl _)
   | (with_reducible exact LeO.none _)
   | (with_reducible refine LeO.ite ?_ ?_)
   | (with_reducible refine LeO.bind ?_ (fun _ => ?_))
   | exact ih0 _ _ _ _ _
   | exact ih1 _ _ _ _ _ _ _
   | exact ih2 _ _ _ _ _ _ _
   | exact slices_ContainsFunc_int_int__table_may_1.mono _ _ _
   | exact LeO.none _
   | refine LeO.ite ?_ ?_
   | refine LeO.bind ?_ (fun _ => ?_)
  ·intro y0 y1 y2 y3 y4 y5 y6
   unfold table_may.l0
   repeat' first
   | (with_reducible exact ih0 _ _ _ _ _)
   | (with_reducible exact ih1 _ _ _ _ _ _ _)
   | (with_reducible exact ih2 _ _ _ _ _ _ _)
   | (with_reducible exact slices_ContainsFunc_int_int__table_may_1.mono _ _ _)
   | (with_reducible exact LeO.refl _)
   | (with_reducible exact LeO.none _)
   | (with_reducible refine LeO.ite ?_ ?_)
   | (with_reducible refine LeO.bind ?_ (fun _ => ?_))
   | exact ih0 _ _ _ _ _
   | exact ih1 _ _ _ _ _ _ _
   | exact ih2 _ _ _ _ _ _ _
   | exact slices_ContainsFunc_int_int__table_may_1.mono _ _ _
   | exact LeO.none _
   | refine LeO.ite ?_ ?_
   | refine LeO.bind ?_ (fun _ => ?_)
  ·intro y0 y1 y2 y3 y4 y5 y6
   unfold table_may.l1
   repeat' first
   | (with_reducible exact ih0 _ _ _ _ _)
   | (with_reducible exact ih1 _ _ _ _ _ _ _)
   | (with_reducible exact ih2 _ _ _ _ _ _ _)
   | (with_reducible exact slices_ContainsFunc_int_int__table_may_1.mono _ _ _)
   | (with_reducible exact LeO.refl _)
   | (with_reducible exact LeO.none _)
   | (with_reducible refine LeO.ite ?_ ?_)
   | (with_reducible refine LeO.bind ?_ (fun _ => ?_))
   | exact ih0 _ _ _ _ _
   | exact ih1 _ _ _ _ _ _ _
   | exact ih2 _ _ _ _ _ _ _
   | exact slices_ContainsFunc_int_int__table_may_1.mono _ _ _
   | exact LeO.none _
   | refine LeO.ite ?_ ?_
   | refine LeO.bind ?_ (fun _ => ?_)
theorem table_may.mono : ∀ a0 a1 a2 a3 k, LeO (table_may.f k a0 a1 a2 a3) (table_may.f (k + 1) a0 a1 a2 a3) := by
 intro a0 a1 a2 a3 k
 obtain ⟨ih0, ih1, ih2⟩ := table_may.mono_l k
 unfold table_may.f
 repeat' first
   | (with_reducible exact ih0 _ _ _ _ _)
   | (with_reducible exact ih1 _ _ _ _ _ _ _)
   | (with_reducible exact ih2 _ _ _ _ _ _ _)
   | (with_reducible exact slices_ContainsFunc_int_int__table_may_1.mono _ _ _)
   | (with_reducible exact LeO.refl _)
   | (with_reducible exact LeO.none _)
   | (with_reducible refine LeO.ite ?_ ?_)
   | (with_reducible refine LeO.bind ?_ (fun _ => ?_))
   | exact ih0 _ _ _ _ _
   | exact ih1 _ _ _ _ _ _ _
   | exact ih2 _ _ _ _ _ _ _
   | exact slices_ContainsFunc_int_int__table_may_1.mono _ _ _
   | exact LeO.none _
   | refine LeO.ite ?_ ?_
   | refine LeO.bind ?_ (fun _ => ?_)
set_option maxHeartbeats 8000000 in
set_option maxRecDepth 100000 in
theorem table_may.calls (k : Nat) (a0_0 : Int) (A0_1 : Option Addr) (c0_1 : Nat) (l0_1 : List (S52)) (A0_2 : Option Addr) (c0_2 : Nat) (l0_2 : List (List Int)) (A0_3 : Option Addr) (c0_3 : Nat) (l0_3 : List Bool) (r : Bool) (w : World) (hr0_1 : Kd.C k52 w A0_1 l0_1.length l0_1) (hc0_1 : l0_1.length ≤ c0_1) (hr0_2 : Kd.C (Kd.slice 3 (Kd.int .i64)) w A0_2 l0_2.length l0_2) (hc0_2 : l0_2.length ≤ c0_2) (hr0_3 : Kd.C Kd.bool w A0_3 l0_3.length l0_3) (hc0_3 : l0_3.length ≤ c0_3) (h : table_may.f k a0_0 l0_1 l0_2 l0_3 = some r) :
  Calls Try.prog 25 #[.agg #[.int .i64 a0_0, .slice A0_1 l0_1.length c0_1, .slice A0_2 l0_2.length c0_2, .slice A0_3 l0_3.length c0_3]] w fun e w' => e = .returned (.bool r) ∧ Below w.heap.size w w' := by
 have hu26 := Try.underlying26
 have hu52 := Try.underlying52
 have HR0_1 := Aside0.mk hr0_1
 have HC0_1 := Aside0.mk hc0_1
 clear hr0_1 hc0_1
 have HR0_2 := Aside0.mk hr0_2
 have HC0_2 := Aside0.mk hc0_2
 clear hr0_2 hc0_2
 have HR0_3 := Aside0.mk hr0_3
 have HC0_3 := Aside0.mk hc0_3
 clear hr0_3 hc0_3
 have HB := Aside0.mk (Below.refl w.heap.size w)
 have H : ((table_between.f a0_0 1 255).bind fun t109 => (if t109 = true then ((table_between.f (l0_2.length : Int) 1 255).bind fun t110 => (if t110 = true then (if (l0_3.length : Int) = (l0_2.length : Int) then (table_may.j0 k (decide ((l0_1.length : Int) > 255)) a0_0 l0_1 l0_2 l0_3) else (table_may.j0 k true a0_0 l0_1 l0_2 l0_3)) else (table_may.j0 k true a0_0 l0_1 l0_2 l0_3))) else (table_may.j0 k true a0_0 l0_1 l0_2 l0_3))) = some r := h
 clear h
 have HC2 := Aside0.mk H
 clear H
 go_enter Try.func25, Try.ntmps25
 go_upto_region 1 with (first | ((with_reducible refine gate_dst (N := 1) rfl ?_); xgg_; refine box_event ?hg (N := 1) ?hd (cs := #[.int .i64 a0_0, .slice A0_1 l0_1.length c0_1, .slice A0_2 l0_2.length c0_2, .slice A0_3 l0_3.length c0_3]) (t := 26) ?hr ?_; (case hd => rfl); (case hg => rfl); (case hr => xgs_); intro gb108 hg w3 hbox hb; have n0_ := Aside0.mk (below_step (by repeat (first | (with_reducible first | exact HB.out | apply below_alloc | apply pw_below_drewN | apply below_drew1) | exact HB.out)) hb); have n1_ := Aside0.mk (hbox); have n2_ := Aside0.mk ((by rw [hg]; exact (below_size (by repeat (first | (with_reducible first | exact HB.out | apply below_alloc | apply pw_below_drewN | apply below_drew1) | exact HB.out))) : w.heap.size ≤ gb108)); have n3_ := Aside0.mk ((by rw [hg]; exact (below_size (by repeat (first | (with_reducible first | exact HB.out | apply below_alloc | apply pw_below_drewN | apply below_drew1) | exact HB.out))) : w.heap.size ≤ gb108)); clear HB; have HB := n0_; have BK108 := n1_; have GW108 := n2_; have GE108 := n3_; clear n0_ n1_ n2_ n3_; clear hb hbox hg))
 (try simp only [Act.put, List.setIfInBounds_toArray, List.set_cons_zero, List.set_cons_succ])
 go_cut [32] (fun v32 wc => ∃ (kq : Nat) (x32_1 : Bool), v32 = .bool x32_1 ∧ Aside0 (table_may.j0 kq x32_1 a0_0 l0_1 l0_2 l0_3 = some r) ∧ Aside0 (kq ≤ k) ∧ Aside0 (wc.heap[gb108]? = some (.cells #[.int .i64 a0_0, (.slice A0_1 l0_1.length c0_1), (.slice A0_2 l0_2.length c0_2), (.slice A0_3 l0_3.length c0_3)] 26 (0, 0))) ∧ Aside0 (Below w.heap.size w wc))
 case first =>
  have H := HC2.out
  clear HC2
  replace H := Option.bind_eq_some_iff.mp H
  obtain ⟨t109, A40, H⟩ := H
  replace H : (if t109 = true then ((table_between.f (l0_2.length : Int) 1 255).bind fun t110 => (if t110 = true then (if (l0_3.length : Int) = (l0_2.length : Int) then (table_may.j0 k (decide ((l0_1.length : Int) > 255)) a0_0 l0_1 l0_2 l0_3) else (table_may.j0 k true a0_0 l0_1 l0_2 l0_3)) else (table_may.j0 k true a0_0 l0_1 l0_2 l0_3))) else (table_may.j0 k true a0_0 l0_1 l0_2 l0_3)) = some r := H
  have A4 := Aside0.mk A40
  clear A40
  by_cases c5 : t109 = true
  ·subst c5
   have H1 : ((table_between.f (l0_2.length : Int) 1 255).bind fun t110 => (if t110 = true then (if (l0_3.length : Int) = (l0_2.length : Int) then (table_may.j0 k (decide ((l0_1.length : Int) > 255)) a0_0 l0_1 l0_2 l0_3) else (table_may.j0 k true a0_0 l0_1 l0_2 l0_3)) else (table_may.j0 k true a0_0 l0_1 l0_2 l0_3))) = some r := by rw [if_pos rfl] at H; exact H
   clear H
   have H := H1
   clear H1
   replace H := Option.bind_eq_some_iff.mp H
   obtain ⟨t110, A60, H⟩ := H
   replace H : (if t110 = true then (if (l0_3.length : Int) = (l0_2.length : Int) then (table_may.j0 k (decide ((l0_1.length : Int) > 255)) a0_0 l0_1 l0_2 l0_3) else (table_may.j0 k true a0_0 l0_1 l0_2 l0_3)) else (table_may.j0 k true a0_0 l0_1 l0_2 l0_3)) = some r := H
   have A6 := Aside0.mk A60
   clear A60
   by_cases c7 : t110 = true
   ·subst c7
    have H1 : (if (l0_3.length : Int) = (l0_2.length : Int) then (table_may.j0 k (decide ((l0_1.length : Int) > 255)) a0_0 l0_1 l0_2 l0_3) else (table_may.j0 k true a0_0 l0_1 l0_2 l0_3)) = some r := by rw [if_pos rfl] at H; exact H
    clear H
    have H := H1
    clear H1
    by_cases c8 : (l0_3.length : Int) = (l0_2.length : Int)
    ·rw [if_pos c8] at H
     have c8b0 : ((l0_3.length : Int) == (l0_2.length : Int)) = true := beq_iff_eq.mpr c8
     have c8b1 : ((l0_3.length : Int) != (l0_2.length : Int)) = false := bne_eq_false_iff_eq.mpr c8
     have c8b2 : (l0_3.length == l0_2.length) = true := by first | simpa using c8 | (simp at c8 ⊢; omega)
     clear c8
     (first | rw [c8b0] | (simp only [i64_w, i32_w]; rw [c8b0]) | skip)
     have H' := Aside0.mk H
     clear H
     have hcz9_0 : w3.cell? ⟨gb108, 0, none⟩ = some (.int .i64 a0_0) := (blk_cell BK108.out 0).trans rfl
     have hcz9_1 : w3.cell? ⟨gb108, 1, none⟩ = some (.slice A0_1 l0_1.length c0_1) := (blk_cell BK108.out 1).trans rfl
     have hcz9_2 : w3.cell? ⟨gb108, 2, none⟩ = some (.slice A0_2 l0_2.length c0_2) := (blk_cell BK108.out 2).trans rfl
     have hcz9_3 : w3.cell? ⟨gb108, 3, none⟩ = some (.slice A0_3 l0_3.length c0_3) := (blk_cell BK108.out 3).trans rfl
     have hfz9_0 := blk_frozen BK108.out 0
     have hfz9_1 := blk_frozen BK108.out 1
     have hfz9_2 := blk_frozen BK108.out 2
     have hfz9_3 := blk_frozen BK108.out 3
     go_wp2_with (first | ((with_reducible refine gate_callee (f := 33) rfl ?_); refine goesL_ (some 9) rfl rfl Try.func33 (by kernel_rfl) rfl #[.int .i64 a0_0, .int .i64 1, .int .i64 255] rfl (by xlm_) ?_; (with_reducible refine (table_between.calls a0_0 1 255 true _ A4.out).mono ?_); rintro e w' ⟨rfl, ⟨nd, rfl⟩⟩; refine ⟨_, rfl, ?_⟩) | (go_at_call 33; (with_reducible refine (table_between.calls (l0_2.length : Int) 1 255 true _ A6.out).mono ?_); rintro e w' ⟨rfl, ⟨nd, rfl⟩⟩))
     go_meet
     case rel => exact ⟨_, (decide ((l0_1.length : Int) > 255)), (by xrs_), H', ⟨by first | omega | exact Nat.le_refl _⟩, ⟨by xkb_; exact BK108.out⟩, ⟨by repeat (first | (with_reducible first | exact HB.out | apply below_alloc | apply pw_below_drewN | apply below_drew1 | refine below_set ?_ GE108.out) | exact HB.out)⟩⟩
    ·rw [if_neg c8] at H
     have c8b0 : ((l0_3.length : Int) == (l0_2.length : Int)) = false := beq_eq_false_iff_ne.mpr c8
     have c8b1 : ((l0_3.length : Int) != (l0_2.length : Int)) = true := bne_iff_ne.mpr c8
     have c8b2 : (l0_3.length == l0_2.length) = false := by first | simpa using c8 | (simp at c8 ⊢; omega)
     (first | rw [c8b0] | (simp only [i64_w, i32_w]; rw [c8b0]) | skip)
     have H' := Aside0.mk H
     clear H
     have hcz10_0 : w3.cell? ⟨gb108, 0, none⟩ = some (.int .i64 a0_0) := (blk_cell BK108.out 0).trans rfl
     have hcz10_1 : w3.cell? ⟨gb108, 1, none⟩ = some (.slice A0_1 l0_1.length c0_1) := (blk_cell BK108.out 1).trans rfl
     have hcz10_2 : w3.cell? ⟨gb108, 2, none⟩ = some (.slice A0_2 l0_2.length c0_2) := (blk_cell BK108.out 2).trans rfl
     have hcz10_3 : w3.cell? ⟨gb108, 3, none⟩ = some (.slice A0_3 l0_3.length c0_3) := (blk_cell BK108.out 3).trans rfl
     have hfz10_0 := blk_frozen BK108.out 0
     have hfz10_1 := blk_frozen BK108.out 1
     have hfz10_2 := blk_frozen BK108.out 2
     have hfz10_3 := blk_frozen BK108.out 3
     go_wp2_with (first | ((with_reducible refine gate_callee (f := 33) rfl ?_); refine goesL_ (some 9) rfl rfl Try.func33 (by kernel_rfl) rfl #[.int .i64 a0_0, .int .i64 1, .int .i64 255] rfl (by xlm_) ?_; (with_reducible refine (table_between.calls a0_0 1 255 true _ A4.out).mono ?_); rintro e w' ⟨rfl, ⟨nd, rfl⟩⟩; refine ⟨_, rfl, ?_⟩) | (go_at_call 33; (with_reducible refine (table_between.calls (l0_2.length : Int) 1 255 true _ A6.out).mono ?_); rintro e w' ⟨rfl, ⟨nd, rfl⟩⟩))
     go_meet
     case rel => exact ⟨_, (true), (by xrs_), H', ⟨by first | omega | exact Nat.le_refl _⟩, ⟨by xkb_; exact BK108.out⟩, ⟨by repeat (first | (with_reducible first | exact HB.out | apply below_alloc | apply pw_below_drewN | apply below_drew1 | refine below_set ?_ GE108.out) | exact HB.out)⟩⟩
   ·replace c7 := Bool.eq_false_iff.mpr c7
    subst c7
    have H1 : (table_may.j0 k true a0_0 l0_1 l0_2 l0_3) = some r := by rw [if_neg (show ¬ (false = true) by decide)] at H; exact H
    clear H
    have H := H1
    clear H1
    have H' := Aside0.mk H
    clear H
    have hcz11_0 : w3.cell? ⟨gb108, 0, none⟩ = some (.int .i64 a0_0) := (blk_cell BK108.out 0).trans rfl
    have hcz11_1 : w3.cell? ⟨gb108, 1, none⟩ = some (.slice A0_1 l0_1.length c0_1) := (blk_cell BK108.out 1).trans rfl
    have hcz11_2 : w3.cell? ⟨gb108, 2, none⟩ = some (.slice A0_2 l0_2.length c0_2) := (blk_cell BK108.out 2).trans rfl
    have hcz11_3 : w3.cell? ⟨gb108, 3, none⟩ = some (.slice A0_3 l0_3.length c0_3) := (blk_cell BK108.out 3).trans rfl
    have hfz11_0 := blk_frozen BK108.out 0
    have hfz11_1 := blk_frozen BK108.out 1
    have hfz11_2 := blk_frozen BK108.out 2
    have hfz11_3 := blk_frozen BK108.out 3
    go_wp2_with (first | ((with_reducible refine gate_callee (f := 33) rfl ?_); refine goesL_ (some 9) rfl rfl Try.func33 (by kernel_rfl) rfl #[.int .i64 a0_0, .int .i64 1, .int .i64 255] rfl (by xlm_) ?_; (with_reducible refine (table_between.calls a0_0 1 255 true _ A4.out).mono ?_); rintro e w' ⟨rfl, ⟨nd, rfl⟩⟩; refine ⟨_, rfl, ?_⟩) | (go_at_call 33; (with_reducible refine (table_between.calls (l0_2.length : Int) 1 255 false _ A6.out).mono ?_); rintro e w' ⟨rfl, ⟨nd, rfl⟩⟩))
    go_meet
    case rel => exact ⟨_, (true), (by xrs_), H', ⟨by first | omega | exact Nat.le_refl _⟩, ⟨by xkb_; exact BK108.out⟩, ⟨by repeat (first | (with_reducible first | exact HB.out | apply below_alloc | apply pw_below_drewN | apply below_drew1 | refine below_set ?_ GE108.out) | exact HB.out)⟩⟩
  ·replace c5 := Bool.eq_false_iff.mpr c5
   subst c5
   have H1 : (table_may.j0 k true a0_0 l0_1 l0_2 l0_3) = some r := by rw [if_neg (show ¬ (false = true) by decide)] at H; exact H
   clear H
   have H := H1
   clear H1
   have H' := Aside0.mk H
   clear H
   have hcz12_0 : w3.cell? ⟨gb108, 0, none⟩ = some (.int .i64 a0_0) := (blk_cell BK108.out 0).trans rfl
   have hcz12_1 : w3.cell? ⟨gb108, 1, none⟩ = some (.slice A0_1 l0_1.length c0_1) := (blk_cell BK108.out 1).trans rfl
   have hcz12_2 : w3.cell? ⟨gb108, 2, none⟩ = some (.slice A0_2 l0_2.length c0_2) := (blk_cell BK108.out 2).trans rfl
   have hcz12_3 : w3.cell? ⟨gb108, 3, none⟩ = some (.slice A0_3 l0_3.length c0_3) := (blk_cell BK108.out 3).trans rfl
   have hfz12_0 := blk_frozen BK108.out 0
   have hfz12_1 := blk_frozen BK108.out 1
   have hfz12_2 := blk_frozen BK108.out 2
   have hfz12_3 := blk_frozen BK108.out 3
   go_wp2_with (first | ((with_reducible refine gate_callee (f := 33) rfl ?_); refine goesL_ (some 9) rfl rfl Try.func33 (by kernel_rfl) rfl #[.int .i64 a0_0, .int .i64 1, .int .i64 255] rfl (by xlm_) ?_; (with_reducible refine (table_between.calls a0_0 1 255 false _ A4.out).mono ?_); rintro e w' ⟨rfl, ⟨nd, rfl⟩⟩; refine ⟨_, rfl, ?_⟩))
   go_meet
   case rel => exact ⟨_, (true), (by xrs_), H', ⟨by first | omega | exact Nat.le_refl _⟩, ⟨by xkb_; exact BK108.out⟩, ⟨by repeat (first | (with_reducible first | exact HB.out | apply below_alloc | apply pw_below_drewN | apply below_drew1 | refine below_set ?_ GE108.out) | exact HB.out)⟩⟩
 case rest =>
  clear HC2
  xcl_ c2 p2 c3 c5 c7 c8 c8b0 c8b1 c8b2 hcz10_0 hcz10_1 hcz10_2 hcz10_3 hcz11_0 hcz11_1 hcz11_2 hcz11_3 hcz12_0 hcz12_1 hcz12_2 hcz12_3 hcz9_0 hcz9_1 hcz9_2 hcz9_3 hfz10_0 hfz10_1 hfz10_2 hfz10_3 hfz11_0 hfz11_1 hfz11_2 hfz11_3 hfz12_0 hfz12_1 hfz12_2 hfz12_3 hfz9_0 hfz9_1 hfz9_2 hfz9_3
  obtain ⟨kq, x32_1, rfl, HA, HJ1, BK108, HB⟩ := hcut
  cases kq with
  | zero => exact absurd HA.out (by simp [table_may.j0])
  | succ kj1 =>
   have H := HA.out
   clear HA
   simp only [table_may.j0] at H
   by_cases c13 : x32_1 = true
   ·subst c13
    have H1 : (some false) = some r := by rw [if_pos rfl] at H; exact H
    clear H
    have H := H1
    clear H1
    obtain rfl := Option.some.inj H
    go_wp2
    go_ret
    exact ⟨by first | rfl | (simp [errW_none, errW_some] <;> rfl) | (simp [*, errW_none, errW_some] <;> rfl), by repeat (first | (with_reducible first | exact HB.out | apply below_alloc | apply pw_below_drewN | apply below_drew1 | refine below_set ?_ GE108.out) | exact HB.out)⟩
   ·replace c13 := Bool.eq_false_iff.mpr c13
    subst c13
    have H1 : (table_may.l0 kj1 l0_1 (l0_1.length : Int) 0 a0_0 l0_1 l0_2 l0_3) = some r := by rw [if_neg (show ¬ (false = true) by decide)] at H; exact H
    clear H
    have H := H1
    clear H1
    have H' := Aside0.mk H
    clear H
    have hcz14_0 : wc.cell? ⟨gb108, 0, none⟩ = some (.int .i64 a0_0) := (blk_cell BK108.out 0).trans rfl
    have hcz14_1 : wc.cell? ⟨gb108, 1, none⟩ = some (.slice A0_1 l0_1.length c0_1) := (blk_cell BK108.out 1).trans rfl
    have hcz14_2 : wc.cell? ⟨gb108, 2, none⟩ = some (.slice A0_2 l0_2.length c0_2) := (blk_cell BK108.out 2).trans rfl
    have hcz14_3 : wc.cell? ⟨gb108, 3, none⟩ = some (.slice A0_3 l0_3.length c0_3) := (blk_cell BK108.out 3).trans rfl
    have hfz14_0 := blk_frozen BK108.out 0
    have hfz14_1 := blk_frozen BK108.out 1
    have hfz14_2 := blk_frozen BK108.out 2
    have hfz14_3 := blk_frozen BK108.out 3
    go_wp2
    go_loopg [36] kj1 (fun kq v36 w' => ∃ (x36_2 : Int), v36 = .int .i64 x36_2 ∧ Aside0 (table_may.l0 kq l0_1 (l0_1.length : Int) x36_2 a0_0 l0_1 l0_2 l0_3 = some r) ∧ Aside0 (kq ≤ kj1) ∧ Aside0 (w'.heap[gb108]? = some (.cells #[.int .i64 a0_0, (.slice A0_1 l0_1.length c0_1), (.slice A0_2 l0_2.length c0_2), (.slice A0_3 l0_3.length c0_3)] 26 (0, 0))) ∧ Aside0 (Below w.heap.size w w'))
    case atStart => exact ⟨(0), (by xrs_), H', ⟨Nat.le_refl _⟩, ⟨by xkb_; exact BK108.out⟩, ⟨by repeat (first | (with_reducible first | exact HB.out | apply below_alloc | apply pw_below_drewN | apply below_drew1 | refine below_set ?_ GE108.out) | exact HB.out)⟩⟩
    case round =>
     clear H'
     xcl_ c1 c2 p2 c3 c5 c7 c8 c8b0 c8b1 c8b2 c13 hcz10_0 hcz10_1 hcz10_2 hcz10_3 hcz11_0 hcz11_1 hcz11_2 hcz11_3 hcz12_0 hcz12_1 hcz12_2 hcz12_3 hcz14_0 hcz14_1 hcz14_2 hcz14_3 hcz9_0 hcz9_1 hcz9_2 hcz9_3 hfz10_0 hfz10_1 hfz10_2 hfz10_3 hfz11_0 hfz11_1 hfz11_2 hfz11_3 hfz12_0 hfz12_1 hfz12_2 hfz12_3 hfz14_0 hfz14_1 hfz14_2 hfz14_3 hfz9_0 hfz9_1 hfz9_2 hfz9_3 p2
     obtain ⟨x36_2, rfl, HA, HK2, BK108, HB⟩ := hrel
     cases gk with
     | zero => exact absurd HA.out (by simp [table_may.l0])
     | succ k2 =>
      have H := HA.out
      clear HA
      simp only [table_may.l0] at H
      by_cases c15 : x36_2 < (l0_1.length : Int)
      ·rw [if_pos c15] at H
       have c15b0 : decide (x36_2 < (l0_1.length : Int)) = true := decide_eq_true c15
       clear c15
       by_cases c16 : 0 ≤ x36_2
       ·rw [if_pos c16] at H
        have c16b0 : decide (0 ≤ x36_2) = true := decide_eq_true c16
        clear c16
        by_cases c17 : x36_2 < (l0_1.length : Int)
        ·rw [if_pos c17] at H
         have c17b0 : decide (x36_2 < (l0_1.length : Int)) = true := decide_eq_true c17
         clear c17
         replace H := Option.bind_eq_some_iff.mp H
         obtain ⟨t113, A180, H⟩ := H
         replace H : (if t113 = true then ((table_between.f ((rd_T52 l0_1 x36_2).f1) 0 255).bind fun t114 => (if t114 = true then (table_may.l0 k2 l0_1 (l0_1.length : Int) (wrap64 (x36_2 + 1)) a0_0 l0_1 l0_2 l0_3) else (some false))) else (some false)) = some r := H
         have A18 := Aside0.mk A180
         clear A180
         by_cases c19 : t113 = true
         ·subst c19
          have H1 : ((table_between.f ((rd_T52 l0_1 x36_2).f1) 0 255).bind fun t114 => (if t114 = true then (table_may.l0 k2 l0_1 (l0_1.length : Int) (wrap64 (x36_2 + 1)) a0_0 l0_1 l0_2 l0_3) else (some false))) = some r := by rw [if_pos rfl] at H; exact H
          clear H
          have H := H1
          clear H1
          replace H := Option.bind_eq_some_iff.mp H
          obtain ⟨t114, A200, H⟩ := H
          replace H : (if t114 = true then (table_may.l0 k2 l0_1 (l0_1.length : Int) (wrap64 (x36_2 + 1)) a0_0 l0_1 l0_2 l0_3) else (some false)) = some r := H
          have A20 := Aside0.mk A200
          clear A200
          by_cases c21 : t114 = true
          ·subst c21
           have H1 : (table_may.l0 k2 l0_1 (l0_1.length : Int) (wrap64 (x36_2 + 1)) a0_0 l0_1 l0_2 l0_3) = some r := by rw [if_pos rfl] at H; exact H
           clear H
           have H := H1
           clear H1
           have H' := Aside0.mk H
           clear H
           have p111 : 0 ≤ (x36_2 : Int) := of_decide_eq_true (by xas_)
           have q111 : x36_2 < (l0_1.length : Int) := of_decide_eq_true (by xas_)
           obtain ⟨ad111, e111, hx111_0, hx111_1⟩ := at_T52 HR0_1.out x36_2 p111 q111
           cases e111
           replace hx111_0 := (HB.out.cell (World.block_lt_of_cell? w _ hx111_0)).trans hx111_0
           replace hx111_1 := (HB.out.cell (World.block_lt_of_cell? w _ hx111_1)).trans hx111_1
           replace p111 := eq_true p111
           replace q111 := eq_true q111
           go_wp2_with (first | ((with_reducible refine gate_dst (N := 4) rfl ?_); xgg_; refine box_event ?hg (N := 4) ?hd (cs := #[.int .i64 0, .int .i64 0]) (t := 52) ?hr ?_; (case hd => rfl); (case hg => rfl); (case hr => xgs_); intro gb112 hg w22 hbox hb; have n0_ := Aside0.mk (blk_below (g := gb108) (o := .cells #[.int .i64 a0_0, .slice (some ad111) l0_1.length c0_1, .slice A0_2 l0_2.length c0_2, .slice A0_3 l0_3.length c0_3] 26 (0, 0)) (by xkb_; exact BK108.out) hb); have n1_ := Aside0.mk (below_step (by repeat (first | (with_reducible first | exact HB.out | apply below_alloc | apply pw_below_drewN | apply below_drew1 | refine below_set ?_ GE108.out) | exact HB.out)) hb); have n2_ := Aside0.mk (hbox); have n3_ := Aside0.mk ((by rw [hg]; exact (below_size (by repeat (first | (with_reducible first | exact HB.out | apply below_alloc | apply pw_below_drewN | apply below_drew1 | refine below_set ?_ GE108.out) | exact HB.out))) : w.heap.size ≤ gb112)); have n4_ := Aside0.mk ((by rw [hg]; exact (below_size (by repeat (first | (with_reducible first | exact HB.out | apply below_alloc | apply pw_below_drewN | apply below_drew1 | refine below_set ?_ GE108.out) | exact HB.out))) : w.heap.size ≤ gb112)); have n5_ := Aside0.mk ((by rw [hg]; exact Nat.ne_of_lt (blk_lt (g := gb108) (o := .cells #[.int .i64 a0_0, .slice (some ad111) l0_1.length c0_1, .slice A0_2 l0_2.length c0_2, .slice A0_3 l0_3.length c0_3] 26 (0, 0)) (by xkb_; exact BK108.out)) : gb108 ≠ gb112)); have n6_ := Aside0.mk ((by rw [hg]; exact Nat.ne_of_gt (blk_lt (g := gb108) (o := .cells #[.int .i64 a0_0, .slice (some ad111) l0_1.length c0_1, .slice A0_2 l0_2.length c0_2, .slice A0_3 l0_3.length c0_3] 26 (0, 0)) (by xkb_; exact BK108.out)) : gb112 ≠ gb108)); clear BK108; clear HB; have BK108 := n0_; have HB := n1_; have BK112 := n2_; have GW112 := n3_; have GE112 := n4_; have NB108_112 := n5_; have NB112_108 := n6_; clear n0_ n1_ n2_ n3_ n4_ n5_ n6_; clear hb hbox hg; have hnb23 := NB112_108.out; have hnc23 := NB108_112.out; have hcz24_0 : w22.cell? ⟨gb112, 0, none⟩ = some (.int .i64 0) := (blk_cell BK112.out 0).trans rfl; have hcz24_1 : w22.cell? ⟨gb112, 1, none⟩ = some (.int .i64 0) := (blk_cell BK112.out 1).trans rfl; have hfz24_0 := blk_frozen BK112.out 0; have hfz24_1 := blk_frozen BK112.out 1) | ((with_reducible refine gate_callee (f := 33) rfl ?_); refine goesL_ (some 42) rfl rfl Try.func33 (by kernel_rfl) rfl #[.int .i64 ((rd_T52 l0_1 x36_2).f0), .int .i64 0, .int .i64 16777215] rfl (by xlm_) ?_; (with_reducible refine (table_between.calls ((rd_T52 l0_1 x36_2).f0) 0 16777215 true _ A18.out).mono ?_); rintro e w' ⟨rfl, ⟨nd, rfl⟩⟩; refine ⟨_, rfl, ?_⟩) | (go_at_call 33; (with_reducible refine (table_between.calls ((rd_T52 l0_1 x36_2).f1) 0 255 true _ A20.out).mono ?_); rintro e w' ⟨rfl, ⟨nd, rfl⟩⟩))
           go_roundg k2
           case measure => have := HJ1.out; have := HK2.out; omega
           case rel => exact ⟨(wrap64 (x36_2 + 1)), (by xrs_), H', ⟨by have := HJ1.out; have := HK2.out; omega⟩, ⟨by xkb_; refine blk_far ?_ NB108_112.out _; xkb_; refine blk_far ?_ NB108_112.out _; xkb_; exact BK108.out⟩, ⟨by repeat (first | (with_reducible first | exact HB.out | apply below_alloc | apply pw_below_drewN | apply below_drew1 | refine below_set ?_ GE108.out | refine below_set ?_ GE112.out) | exact HB.out)⟩⟩
          ·replace c21 := Bool.eq_false_iff.mpr c21
           subst c21
           have H1 : (some false) = some r := by rw [if_neg (show ¬ (false = true) by decide)] at H; exact H
           clear H
           have H := H1
           clear H1
           obtain rfl := Option.some.inj H
           have p111 : 0 ≤ (x36_2 : Int) := of_decide_eq_true (by xas_)
           have q111 : x36_2 < (l0_1.length : Int) := of_decide_eq_true (by xas_)
           obtain ⟨ad111, e111, hx111_0, hx111_1⟩ := at_T52 HR0_1.out x36_2 p111 q111
           cases e111
           replace hx111_0 := (HB.out.cell (World.block_lt_of_cell? w _ hx111_0)).trans hx111_0
           replace hx111_1 := (HB.out.cell (World.block_lt_of_cell? w _ hx111_1)).trans hx111_1
           replace p111 := eq_true p111
           replace q111 := eq_true q111
           go_wp2_with (first | ((with_reducible refine gate_dst (N := 4) rfl ?_); xgg_; refine box_event ?hg (N := 4) ?hd (cs := #[.int .i64 0, .int .i64 0]) (t := 52) ?hr ?_; (case hd => rfl); (case hg => rfl); (case hr => xgs_); intro gb112 hg w25 hbox hb; have n0_ := Aside0.mk (blk_below (g := gb108) (o := .cells #[.int .i64 a0_0, .slice (some ad111) l0_1.length c0_1, .slice A0_2 l0_2.length c0_2, .slice A0_3 l0_3.length c0_3] 26 (0, 0)) (by xkb_; exact BK108.out) hb); have n1_ := Aside0.mk (below_step (by repeat (first | (with_reducible first | exact HB.out | apply below_alloc | apply pw_below_drewN | apply below_drew1 | refine below_set ?_ GE108.out) | exact HB.out)) hb); have n2_ := Aside0.mk (hbox); have n3_ := Aside0.mk ((by rw [hg]; exact (below_size (by repeat (first | (with_reducible first | exact HB.out | apply below_alloc | apply pw_below_drewN | apply below_drew1 | refine below_set ?_ GE108.out) | exact HB.out))) : w.heap.size ≤ gb112)); have n4_ := Aside0.mk ((by rw [hg]; exact (below_size (by repeat (first | (with_reducible first | exact HB.out | apply below_alloc | apply pw_below_drewN | apply below_drew1 | refine below_set ?_ GE108.out) | exact HB.out))) : w.heap.size ≤ gb112)); have n5_ := Aside0.mk ((by rw [hg]; exact Nat.ne_of_lt (blk_lt (g := gb108) (o := .cells #[.int .i64 a0_0, .slice (some ad111) l0_1.length c0_1, .slice A0_2 l0_2.length c0_2, .slice A0_3 l0_3.length c0_3] 26 (0, 0)) (by xkb_; exact BK108.out)) : gb108 ≠ gb112)); have n6_ := Aside0.mk ((by rw [hg]; exact Nat.ne_of_gt (blk_lt (g := gb108) (o := .cells #[.int .i64 a0_0, .slice (some ad111) l0_1.length c0_1, .slice A0_2 l0_2.length c0_2, .slice A0_3 l0_3.length c0_3] 26 (0, 0)) (by xkb_; exact BK108.out)) : gb112 ≠ gb108)); clear BK108; clear HB; have BK108 := n0_; have HB := n1_; have BK112 := n2_; have GW112 := n3_; have GE112 := n4_; have NB108_112 := n5_; have NB112_108 := n6_; clear n0_ n1_ n2_ n3_ n4_ n5_ n6_; clear hb hbox hg; have hnb26 := NB112_108.out; have hnc26 := NB108_112.out; have hcz27_0 : w25.cell? ⟨gb112, 0, none⟩ = some (.int .i64 0) := (blk_cell BK112.out 0).trans rfl; have hcz27_1 : w25.cell? ⟨gb112, 1, none⟩ = some (.int .i64 0) := (blk_cell BK112.out 1).trans rfl; have hfz27_0 := blk_frozen BK112.out 0; have hfz27_1 := blk_frozen BK112.out 1) | ((with_reducible refine gate_callee (f := 33) rfl ?_); refine goesL_ (some 42) rfl rfl Try.func33 (by kernel_rfl) rfl #[.int .i64 ((rd_T52 l0_1 x36_2).f0), .int .i64 0, .int .i64 16777215] rfl (by xlm_) ?_; (with_reducible refine (table_between.calls ((rd_T52 l0_1 x36_2).f0) 0 16777215 true _ A18.out).mono ?_); rintro e w' ⟨rfl, ⟨nd, rfl⟩⟩; refine ⟨_, rfl, ?_⟩) | (go_at_call 33; (with_reducible refine (table_between.calls ((rd_T52 l0_1 x36_2).f1) 0 255 false _ A20.out).mono ?_); rintro e w' ⟨rfl, ⟨nd, rfl⟩⟩))
           go_ret
           exact ⟨by first | rfl | (simp [errW_none, errW_some] <;> rfl) | (simp [*, errW_none, errW_some] <;> rfl), by repeat (first | (with_reducible first | exact HB.out | apply below_alloc | apply pw_below_drewN | apply below_drew1 | refine below_set ?_ GE108.out | refine below_set ?_ GE112.out) | exact HB.out)⟩
         ·replace c19 := Bool.eq_false_iff.mpr c19
          subst c19
          have H1 : (some false) = some r := by rw [if_neg (show ¬ (false = true) by decide)] at H; exact H
          clear H
          have H := H1
          clear H1
          obtain rfl := Option.some.inj H
          have p111 : 0 ≤ (x36_2 : Int) := of_decide_eq_true (by xas_)
          have q111 : x36_2 < (l0_1.length : Int) := of_decide_eq_true (by xas_)
          obtain ⟨ad111, e111, hx111_0, hx111_1⟩ := at_T52 HR0_1.out x36_2 p111 q111
          cases e111
          replace hx111_0 := (HB.out.cell (World.block_lt_of_cell? w _ hx111_0)).trans hx111_0
          replace hx111_1 := (HB.out.cell (World.block_lt_of_cell? w _ hx111_1)).trans hx111_1
          replace p111 := eq_true p111
          replace q111 := eq_true q111
          go_wp2_with (first | ((with_reducible refine gate_dst (N := 4) rfl ?_); xgg_; refine box_event ?hg (N := 4) ?hd (cs := #[.int .i64 0, .int .i64 0]) (t := 52) ?hr ?_; (case hd => rfl); (case hg => rfl); (case hr => xgs_); intro gb112 hg w28 hbox hb; have n0_ := Aside0.mk (blk_below (g := gb108) (o := .cells #[.int .i64 a0_0, .slice (some ad111) l0_1.length c0_1, .slice A0_2 l0_2.length c0_2, .slice A0_3 l0_3.length c0_3] 26 (0, 0)) (by xkb_; exact BK108.out) hb); have n1_ := Aside0.mk (below_step (by repeat (first | (with_reducible first | exact HB.out | apply below_alloc | apply pw_below_drewN | apply below_drew1 | refine below_set ?_ GE108.out) | exact HB.out)) hb); have n2_ := Aside0.mk (hbox); have n3_ := Aside0.mk ((by rw [hg]; exact (below_size (by repeat (first | (with_reducible first | exact HB.out | apply below_alloc | apply pw_below_drewN | apply below_drew1 | refine below_set ?_ GE108.out) | exact HB.out))) : w.heap.size ≤ gb112)); have n4_ := Aside0.mk ((by rw [hg]; exact (below_size (by repeat (first | (with_reducible first | exact HB.out | apply below_alloc | apply pw_below_drewN | apply below_drew1 | refine below_set ?_ GE108.out) | exact HB.out))) : w.heap.size ≤ gb112)); have n5_ := Aside0.mk ((by rw [hg]; exact Nat.ne_of_lt (blk_lt (g := gb108) (o := .cells #[.int .i64 a0_0, .slice (some ad111) l0_1.length c0_1, .slice A0_2 l0_2.length c0_2, .slice A0_3 l0_3.length c0_3] 26 (0, 0)) (by xkb_; exact BK108.out)) : gb108 ≠ gb112)); have n6_ := Aside0.mk ((by rw [hg]; exact Nat.ne_of_gt (blk_lt (g := gb108) (o := .cells #[.int .i64 a0_0, .slice (some ad111) l0_1.length c0_1, .slice A0_2 l0_2.length c0_2, .slice A0_3 l0_3.length c0_3] 26 (0, 0)) (by xkb_; exact BK108.out)) : gb112 ≠ gb108)); clear BK108; clear HB; have BK108 := n0_; have HB := n1_; have BK112 := n2_; have GW112 := n3_; have GE112 := n4_; have NB108_112 := n5_; have NB112_108 := n6_; clear n0_ n1_ n2_ n3_ n4_ n5_ n6_; clear hb hbox hg; have hnb29 := NB112_108.out; have hnc29 := NB108_112.out; have hcz30_0 : w28.cell? ⟨gb112, 0, none⟩ = some (.int .i64 0) := (blk_cell BK112.out 0).trans rfl; have hcz30_1 : w28.cell? ⟨gb112, 1, none⟩ = some (.int .i64 0) := (blk_cell BK112.out 1).trans rfl; have hfz30_0 := blk_frozen BK112.out 0; have hfz30_1 := blk_frozen BK112.out 1) | ((with_reducible refine gate_callee (f := 33) rfl ?_); refine goesL_ (some 42) rfl rfl Try.func33 (by kernel_rfl) rfl #[.int .i64 ((rd_T52 l0_1 x36_2).f0), .int .i64 0, .int .i64 16777215] rfl (by xlm_) ?_; (with_reducible refine (table_between.calls ((rd_T52 l0_1 x36_2).f0) 0 16777215 false _ A18.out).mono ?_); rintro e w' ⟨rfl, ⟨nd, rfl⟩⟩; refine ⟨_, rfl, ?_⟩))
          go_ret
          exact ⟨by first | rfl | (simp [errW_none, errW_some] <;> rfl) | (simp [*, errW_none, errW_some] <;> rfl), by repeat (first | (with_reducible first | exact HB.out | apply below_alloc | apply pw_below_drewN | apply below_drew1 | refine below_set ?_ GE108.out | refine below_set ?_ GE112.out) | exact HB.out)⟩
        ·rw [if_neg c17] at H
         exact absurd H (by simp)
       ·rw [if_neg c16] at H
        exact absurd H (by simp)
      ·rw [if_neg c15] at H
       have c15b0 : decide (x36_2 < (l0_1.length : Int)) = false := decide_eq_false c15
       clear c15
       have H' := Aside0.mk H
       clear H
       have hcz31_0 : wr.cell? ⟨gb108, 0, none⟩ = some (.int .i64 a0_0) := (blk_cell BK108.out 0).trans rfl
       have hcz31_1 : wr.cell? ⟨gb108, 1, none⟩ = some (.slice A0_1 l0_1.length c0_1) := (blk_cell BK108.out 1).trans rfl
       have hcz31_2 : wr.cell? ⟨gb108, 2, none⟩ = some (.slice A0_2 l0_2.length c0_2) := (blk_cell BK108.out 2).trans rfl
       have hcz31_3 : wr.cell? ⟨gb108, 3, none⟩ = some (.slice A0_3 l0_3.length c0_3) := (blk_cell BK108.out 3).trans rfl
       have hfz31_0 := blk_frozen BK108.out 0
       have hfz31_1 := blk_frozen BK108.out 1
       have hfz31_2 := blk_frozen BK108.out 2
       have hfz31_3 := blk_frozen BK108.out 3
       go_wp2
       go_loopg [54] k2 (fun kq v54 w' => ∃ (x54_3 : Int), v54 = .int .i64 x54_3 ∧ Aside0 (table_may.l1 kq l0_2 (l0_2.length : Int) x54_3 a0_0 l0_1 l0_2 l0_3 = some r) ∧ Aside0 (kq ≤ k2) ∧ Aside0 (w'.heap[gb108]? = some (.cells #[.int .i64 a0_0, (.slice A0_1 l0_1.length c0_1), (.slice A0_2 l0_2.length c0_2), (.slice A0_3 l0_3.length c0_3)] 26 (0, 0))) ∧ Aside0 (Below w.heap.size w w'))
       case atStart => exact ⟨(0), (by xrs_), H', ⟨Nat.le_refl _⟩, ⟨by xkb_; exact BK108.out⟩, ⟨by repeat (first | (with_reducible first | exact HB.out | apply below_alloc | apply pw_below_drewN | apply below_drew1 | refine below_set ?_ GE108.out) | exact HB.out)⟩⟩
       case round =>
        clear H'
        xcl_ c1 p1 q1 hx1 c2 p2 c3 c5 p6 c7 c8 c8b0 c8b1 c8b2 p11 q11 hx11 c13 c15 c15b0 c16 c16b0 c17 c17b0 c19 c21 c23 c25 c26 c29 hcz10_0 hcz10_1 hcz10_2 hcz10_3 hcz11_0 hcz11_1 hcz11_2 hcz11_3 hcz12_0 hcz12_1 hcz12_2 hcz12_3 hcz14_0 hcz14_1 hcz14_2 hcz14_3 hcz24_0 hcz24_1 hcz27_0 hcz27_1 hcz30_0 hcz30_1 hcz31_0 hcz31_1 hcz31_2 hcz31_3 hcz9_0 hcz9_1 hcz9_2 hcz9_3 hfz10_0 hfz10_1 hfz10_2 hfz10_3 hfz11_0 hfz11_1 hfz11_2 hfz11_3 hfz12_0 hfz12_1 hfz12_2 hfz12_3 hfz14_0 hfz14_1 hfz14_2 hfz14_3 hfz24_0 hfz24_1 hfz27_0 hfz27_1 hfz30_0 hfz30_1 hfz31_0 hfz31_1 hfz31_2 hfz31_3 hfz9_0 hfz9_1 hfz9_2 hfz9_3 hx111_0 hx111_1 p111 p2 q111
        obtain ⟨x54_3, rfl, HA, HK3, BK108, HB⟩ := hrel
        cases gk with
        | zero => exact absurd HA.out (by simp [table_may.l1])
        | succ k3 =>
         have H := HA.out
         clear HA
         simp only [table_may.l1] at H
         by_cases c32 : x54_3 < (l0_2.length : Int)
         ·rw [if_pos c32] at H
          have c32b0 : decide (x54_3 < (l0_2.length : Int)) = true := decide_eq_true c32
          clear c32
          by_cases c33 : 0 ≤ x54_3
          ·rw [if_pos c33] at H
           have c33b0 : decide (0 ≤ x54_3) = true := decide_eq_true c33
           clear c33
           by_cases c34 : x54_3 < (l0_2.length : Int)
           ·rw [if_pos c34] at H
            have c34b0 : decide (x54_3 < (l0_2.length : Int)) = true := decide_eq_true c34
            clear c34
            by_cases c35 : ((rd_L1 l0_2 x54_3).length : Int) = a0_0
            ·rw [if_pos c35] at H
             have c35b0 : (((rd_L1 l0_2 x54_3).length : Int) == a0_0) = true := beq_iff_eq.mpr c35
             have c35b1 : (((rd_L1 l0_2 x54_3).length : Int) != a0_0) = false := bne_eq_false_iff_eq.mpr c35
             clear c35
             replace H := Option.bind_eq_some_iff.mp H
             obtain ⟨t116, A360, H⟩ := H
             replace H : (if t116 = true then (some false) else (table_may.l1 k3 l0_2 (l0_2.length : Int) (wrap64 (x54_3 + 1)) a0_0 l0_1 l0_2 l0_3)) = some r := H
             have A36 := Aside0.mk A360
             clear A360
             by_cases c37 : t116 = true
             ·subst c37
              have H1 : (some false) = some r := by rw [if_pos rfl] at H; exact H
              clear H
              have H := H1
              clear H1
              obtain rfl := Option.some.inj H
              have p115 : 0 ≤ (x54_3 : Int) := of_decide_eq_true (by xas_)
              have q115 : x54_3 < (l0_2.length : Int) := of_decide_eq_true (by xas_)
              obtain ⟨ad115, A115_0, c115_0, e115, hx115_0, hl115_0, hi115_0⟩ := at_L1 HR0_2.out x54_3 p115 q115
              cases e115
              replace hx115_0 := (HB.out.cell (World.block_lt_of_cell? w _ hx115_0)).trans hx115_0
              have HR115_0 := Aside0.mk hi115_0
              have HC115_0 := Aside0.mk hl115_0
              clear hi115_0 hl115_0
              replace p115 := eq_true p115
              replace q115 := eq_true q115
              have hcz38_0 : wr.cell? ⟨gb108, 0, none⟩ = some (.int .i64 a0_0) := (blk_cell BK108.out 0).trans rfl
              have hcz38_1 : wr.cell? ⟨gb108, 1, none⟩ = some (.slice A0_1 l0_1.length c0_1) := (blk_cell BK108.out 1).trans rfl
              have hcz38_2 : wr.cell? ⟨gb108, 2, none⟩ = some (.slice (some ad115) l0_2.length c0_2) := (blk_cell BK108.out 2).trans rfl
              have hcz38_3 : wr.cell? ⟨gb108, 3, none⟩ = some (.slice A0_3 l0_3.length c0_3) := (blk_cell BK108.out 3).trans rfl
              have hfz38_0 := blk_frozen BK108.out 0
              have hfz38_1 := blk_frozen BK108.out 1
              have hfz38_2 := blk_frozen BK108.out 2
              have hfz38_3 := blk_frozen BK108.out 3
              go_wp2_with (first | (go_at_call 46; (with_reducible refine (slices_ContainsFunc_int_int__table_may_1.calls k3 _ _ (rd_L1 l0_2 x54_3) 0 true _ ?side1 ?side2 A36.out).mono ?_); (case side1 => repeat (first | exact (Kd.C_below HR115_0.out HB.out) | xkC_)); (case side2 => exact HC115_0.out); rintro e w' ⟨rfl, ⟨nd, rfl⟩⟩))
              go_ret
              exact ⟨by first | rfl | (simp [errW_none, errW_some] <;> rfl) | (simp [*, errW_none, errW_some] <;> rfl), by repeat (first | (with_reducible first | exact HB.out | apply below_alloc | apply pw_below_drewN | apply below_drew1 | refine below_set ?_ GE108.out) | exact HB.out)⟩
             ·replace c37 := Bool.eq_false_iff.mpr c37
              subst c37
              have H1 : (table_may.l1 k3 l0_2 (l0_2.length : Int) (wrap64 (x54_3 + 1)) a0_0 l0_1 l0_2 l0_3) = some r := by rw [if_neg (show ¬ (false = true) by decide)] at H; exact H
              clear H
              have H := H1
              clear H1
              have H' := Aside0.mk H
              clear H
              have p115 : 0 ≤ (x54_3 : Int) := of_decide_eq_true (by xas_)
              have q115 : x54_3 < (l0_2.length : Int) := of_decide_eq_true (by xas_)
              obtain ⟨ad115, A115_0, c115_0, e115, hx115_0, hl115_0, hi115_0⟩ := at_L1 HR0_2.out x54_3 p115 q115
              cases e115
              replace hx115_0 := (HB.out.cell (World.block_lt_of_cell? w _ hx115_0)).trans hx115_0
              have HR115_0 := Aside0.mk hi115_0
              have HC115_0 := Aside0.mk hl115_0
              clear hi115_0 hl115_0
              replace p115 := eq_true p115
              replace q115 := eq_true q115
              have hcz39_0 : wr.cell? ⟨gb108, 0, none⟩ = some (.int .i64 a0_0) := (blk_cell BK108.out 0).trans rfl
              have hcz39_1 : wr.cell? ⟨gb108, 1, none⟩ = some (.slice A0_1 l0_1.length c0_1) := (blk_cell BK108.out 1).trans rfl
              have hcz39_2 : wr.cell? ⟨gb108, 2, none⟩ = some (.slice (some ad115) l0_2.length c0_2) := (blk_cell BK108.out 2).trans rfl
              have hcz39_3 : wr.cell? ⟨gb108, 3, none⟩ = some (.slice A0_3 l0_3.length c0_3) := (blk_cell BK108.out 3).trans rfl
              have hfz39_0 := blk_frozen BK108.out 0
              have hfz39_1 := blk_frozen BK108.out 1
              have hfz39_2 := blk_frozen BK108.out 2
              have hfz39_3 := blk_frozen BK108.out 3
              go_wp2_with (first | (go_at_call 46; (with_reducible refine (slices_ContainsFunc_int_int__table_may_1.calls k3 _ _ (rd_L1 l0_2 x54_3) 0 false _ ?side1 ?side2 A36.out).mono ?_); (case side1 => repeat (first | exact (Kd.C_below HR115_0.out HB.out) | xkC_)); (case side2 => exact HC115_0.out); rintro e w' ⟨rfl, ⟨nd, rfl⟩⟩))
              go_roundg k3
              case measure => have := HJ1.out; have := HK2.out; have := HK3.out; omega
              case rel => exact ⟨(wrap64 (x54_3 + 1)), (by xrs_), H', ⟨by have := HJ1.out; have := HK2.out; have := HK3.out; omega⟩, ⟨by xkb_; exact BK108.out⟩, ⟨by repeat (first | (with_reducible first | exact HB.out | apply below_alloc | apply pw_below_drewN | apply below_drew1 | refine below_set ?_ GE108.out) | exact HB.out)⟩⟩
            ·rw [if_neg c35] at H
             have c35b0 : (((rd_L1 l0_2 x54_3).length : Int) == a0_0) = false := beq_eq_false_iff_ne.mpr c35
             have c35b1 : (((rd_L1 l0_2 x54_3).length : Int) != a0_0) = true := bne_iff_ne.mpr c35
             obtain rfl := Option.some.inj H
             have p115 : 0 ≤ (x54_3 : Int) := of_decide_eq_true (by xas_)
             have q115 : x54_3 < (l0_2.length : Int) := of_decide_eq_true (by xas_)
             obtain ⟨ad115, A115_0, c115_0, e115, hx115_0, hl115_0, hi115_0⟩ := at_L1 HR0_2.out x54_3 p115 q115
             cases e115
             replace hx115_0 := (HB.out.cell (World.block_lt_of_cell? w _ hx115_0)).trans hx115_0
             have HR115_0 := Aside0.mk hi115_0
             have HC115_0 := Aside0.mk hl115_0
             clear hi115_0 hl115_0
             replace p115 := eq_true p115
             replace q115 := eq_true q115
             have hcz40_0 : wr.cell? ⟨gb108, 0, none⟩ = some (.int .i64 a0_0) := (blk_cell BK108.out 0).trans rfl
             have hcz40_1 : wr.cell? ⟨gb108, 1, none⟩ = some (.slice A0_1 l0_1.length c0_1) := (blk_cell BK108.out 1).trans rfl
             have hcz40_2 : wr.cell? ⟨gb108, 2, none⟩ = some (.slice (some ad115) l0_2.length c0_2) := (blk_cell BK108.out 2).trans rfl
             have hcz40_3 : wr.cell? ⟨gb108, 3, none⟩ = some (.slice A0_3 l0_3.length c0_3) := (blk_cell BK108.out 3).trans rfl
             have hfz40_0 := blk_frozen BK108.out 0
             have hfz40_1 := blk_frozen BK108.out 1
             have hfz40_2 := blk_frozen BK108.out 2
             have hfz40_3 := blk_frozen BK108.out 3
             go_wp2
             go_ret
             exact ⟨by first | rfl | (simp [errW_none, errW_some] <;> rfl) | (simp [*, errW_none, errW_some] <;> rfl), by repeat (first | (with_reducible first | exact HB.out | apply below_alloc | apply pw_below_drewN | apply below_drew1 | refine below_set ?_ GE108.out) | exact HB.out)⟩
           ·rw [if_neg c34] at H
            exact absurd H (by simp)
          ·rw [if_neg c33] at H
           exact absurd H (by simp)
         ·rw [if_neg c32] at H
          have c32b0 : decide (x54_3 < (l0_2.length : Int)) = false := decide_eq_false c32
          clear c32
          obtain rfl := Option.some.inj H
          go_wp2
          go_ret
          exact ⟨by first | rfl | (simp [errW_none, errW_some] <;> rfl) | (simp [*, errW_none, errW_some] <;> rfl), by repeat (first | (with_reducible first | exact HB.out | apply below_alloc | apply pw_below_drewN | apply below_drew1 | refine below_set ?_ GE108.out) | exact HB.out)⟩

/-! ### table_known: function 26 -/
def table_known.f  : Option (Int × Int × Int × Int) := some (66, 82, 75, 49)
set_option maxHeartbeats 8000000 in
set_option maxRecDepth 100000 in
theorem table_known.calls  (r1 : Int) (r2 : Int) (r3 : Int) (r4 : Int) (w : World) (h : table_known.f  = some (r1, r2, r3, r4)) :
  Calls Try.prog 26 #[] w fun e w' => e = .returned (.agg #[.int .u8 r1, .int .u8 r2, .int .u8 r3, .int .u8 r4]) ∧ Below w.heap.size w w' := by
 have hu61 := Try.underlying61
 have HB := Aside0.mk (Below.refl w.heap.size w)
 have H : (some (66, 82, 75, 49)) = some (r1, r2, r3, r4) := h
 clear h
 simp only [Option.some.injEq, Prod.mk.injEq] at H
 obtain ⟨rfl, rfl, rfl, rfl⟩ := H
 go_enter Try.func26, Try.ntmps26
 go_wp2_with (first | ((with_reducible refine gate_dst (N := 0) rfl ?_); refine box_event ?hg (N := 0) ?hd (cs := #[.int .u8 0, .int .u8 0, .int .u8 0, .int .u8 0]) (t := 61) ?hr ?_; (case hd => rfl); (case hg => rfl); (case hr => xgs_); intro gb117 hg w1 hbox hb; have n0_ := Aside0.mk (below_step (by repeat (first | (with_reducible first | exact HB.out | apply below_alloc | apply pw_below_drewN | apply below_drew1) | exact HB.out)) hb); have n1_ := Aside0.mk (hbox); have n2_ := Aside0.mk ((by rw [hg]; exact (below_size (by repeat (first | (with_reducible first | exact HB.out | apply below_alloc | apply pw_below_drewN | apply below_drew1) | exact HB.out))) : w.heap.size ≤ gb117)); have n3_ := Aside0.mk ((by rw [hg]; exact (below_size (by repeat (first | (with_reducible first | exact HB.out | apply below_alloc | apply pw_below_drewN | apply below_drew1) | exact HB.out))) : w.heap.size ≤ gb117)); clear HB; have HB := n0_; have BK117 := n1_; have GW117 := n2_; have GE117 := n3_; clear n0_ n1_ n2_ n3_; clear hb hbox hg; have hcz2_0 : w1.cell? ⟨gb117, 0, none⟩ = some (.int .u8 0) := (blk_cell BK117.out 0).trans rfl; have hcz2_1 : w1.cell? ⟨gb117, 1, none⟩ = some (.int .u8 0) := (blk_cell BK117.out 1).trans rfl; have hcz2_2 : w1.cell? ⟨gb117, 2, none⟩ = some (.int .u8 0) := (blk_cell BK117.out 2).trans rfl; have hcz2_3 : w1.cell? ⟨gb117, 3, none⟩ = some (.int .u8 0) := (blk_cell BK117.out 3).trans rfl; have hfz2_0 := blk_frozen BK117.out 0; have hfz2_1 := blk_frozen BK117.out 1; have hfz2_2 := blk_frozen BK117.out 2; have hfz2_3 := blk_frozen BK117.out 3))
 refine bodyPost_ret (results_cell_row rfl _ _ gb117 61 #[.int .u8 66, .int .u8 82, .int .u8 75, .int .u8 49] (0, 0) _ rfl (by xkb_; refine blk_put (cs := #[.int .u8 66, .int .u8 82, .int .u8 75, .int .u8 0]) ?_ 3 _ rfl; xkb_; refine blk_put (cs := #[.int .u8 66, .int .u8 82, .int .u8 0, .int .u8 0]) ?_ 2 _ rfl; xkb_; refine blk_put (cs := #[.int .u8 66, .int .u8 0, .int .u8 0, .int .u8 0]) ?_ 1 _ rfl; xkb_; refine blk_put (cs := #[.int .u8 0, .int .u8 0, .int .u8 0, .int .u8 0]) ?_ 0 _ rfl; xkb_; exact BK117.out) Try.underlying61 rfl (by kernel_rfl)) rfl ?_
 exact ⟨by first | rfl | (simp [errW_none, errW_some] <;> rfl) | (simp [*, errW_none, errW_some] <;> rfl), by repeat (first | (with_reducible first | exact HB.out | apply below_alloc | apply pw_below_drewN | apply below_drew1 | refine below_set ?_ GE117.out) | exact HB.out)⟩

end Go.Proofs.Ytpcbhghgommijaa.X
