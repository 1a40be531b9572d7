/- Functions of the program as Lean functions, and that the program comes to their answers (written by this session's own program, wip/x/xprint.py; Lean checks it). -/
import Derived.Test.YtpcbhghgommijaaXx0
import Derived.Test.YtpcbhghgommijaaXx2
import Derived.Test.YtpcbhghgommijaaXx3
import Derived.Test.YtpcbhghgommijaaXFn
namespace Go.Proofs.Ytpcbhghgommijaa.X
open Go.RowKit Go.Proofs.YtpcbhghgommijaaW.PrintWords Go.Proofs.YtpcbhghgommijaaW.PrintLast Go.Proofs.YtpcbhghgommijaaW.PrintMore
attribute [local go_sem] max2_int min2_int max_two min_two max_three min_three max_four min_four   -- for this text's walks alone
set_option linter.unusedVariables false
set_option linter.unusedSimpArgs false

open Go.Proofs.Ytpcbhghgommijaa.XMac
/-! ### table_Encode: function 12 -/
mutual
def table_Encode.l0 : Nat → List Int → List (S52) → Int → Int → Int → List (S52) → List (List Int) → List Bool → Option (List Int × Bool)
 | 0, _, _, _, _, _, _, _, _ => none
 | k + 1, x5, x31, x32, x33, x128000, x128001, x128002, x128003 => if x33 < x32 then (if 0 ≤ x33 then (if x33 < (x31.length : Int) then ((pack_Put.f x5 ((rd_T52 x31 x33).f0) 3).bind fun t142 => ((some (([((rd_T52 x31 x33).f1) % 256] : List Int) : List Int)).bind fun y145 => (if t142.length + y145.length < 140737488355328 then (table_Encode.l0 k (t142 ++ y145) x31 x32 (wrap64 (x33 + 1)) x128000 x128001 x128002 x128003) else (none)))) else (none)) else (none)) else (table_Encode.l1 k x5 x128002 (x128002.length : Int) 0 x128000 x128001 x128002 x128003)
def table_Encode.l1 : Nat → List Int → List (List Int) → Int → Int → Int → List (S52) → List (List Int) → List Bool → Option (List Int × Bool)
 | 0, _, _, _, _, _, _, _, _ => none
 | k + 1, x5, x48, x49, x50, x128000, x128001, x128002, x128003 => if x50 < x49 then (if 0 ≤ x50 then (if x50 < (x48.length : Int) then (table_Encode.l2 k x5 x48 x49 x50 (rd_L1 x48 x50) ((rd_L1 x48 x50).length : Int) 0 x128000 x128001 x128002 x128003) else (none)) else (none)) else ((pack_Bits.f k x128003).bind fun t151 => (if x5.length + t151.length < 140737488355328 then ((some (x5 ++ t151 : List Int)).bind fun y154 => ((pack_Sum.f k y154).bind fun t157 => ((pack_Put.f y154 (wrap64 (t157)) 4).bind fun t158 => (some (t158, true))))) else (none)))
def table_Encode.l2 : Nat → List Int → List (List Int) → Int → Int → List Int → Int → Int → Int → List (S52) → List (List Int) → List Bool → Option (List Int × Bool)
 | 0, _, _, _, _, _, _, _, _, _, _, _ => none
 | k + 1, x5, x48, x49, x50, x54, x55, x56, x128000, x128001, x128002, x128003 => if x56 < x55 then (if 0 ≤ x56 then (if x56 < (x54.length : Int) then ((some (([(rd x54 x56) % 256] : List Int) : List Int)).bind fun y163 => (if x5.length + y163.length < 140737488355328 then (table_Encode.l2 k (x5 ++ y163) x48 x49 x50 x54 x55 (wrap64 (x56 + 1)) x128000 x128001 x128002 x128003) else (none))) else (none)) else (none)) else (table_Encode.l1 k x5 x48 x49 (wrap64 (x50 + 1)) x128000 x128001 x128002 x128003)
end
def table_Encode.f (k : Nat) (a0_0 : Int) (l0_1 : List (S52)) (l0_2 : List (List Int)) (l0_3 : List Bool) : Option (List Int × Bool) := (table_may.f k a0_0 l0_1 l0_2 l0_3).bind fun t128 => (if t128 = true then ((table_known.f).bind fun bt129 => ((some (([(a0_0) % 256, ((l0_2.length : Int)) % 256, ((l0_1.length : Int)) % 256] : List Int) : List Int)).bind fun y134 => (if ([bt129.1, bt129.2.1, bt129.2.2.1, bt129.2.2.2] : List Int).length + y134.length < 140737488355328 then (table_Encode.l0 k (([bt129.1, bt129.2.1, bt129.2.2.1, bt129.2.2.2] : List Int) ++ y134) l0_1 (l0_1.length : Int) 0 a0_0 l0_1 l0_2 l0_3) else (none)))) else (some (([] : List Int), false)))
theorem table_Encode.mono_l : ∀ k, (∀ y0 y1 y2 y3 y4 y5 y6 y7, LeO (table_Encode.l0 k y0 y1 y2 y3 y4 y5 y6 y7) (table_Encode.l0 (k + 1) y0 y1 y2 y3 y4 y5 y6 y7)) ∧ (∀ y0 y1 y2 y3 y4 y5 y6 y7, LeO (table_Encode.l1 k y0 y1 y2 y3 y4 y5 y6 y7) (table_Encode.l1 (k + 1) y0 y1 y2 y3 y4 y5 y6 y7)) ∧ (∀ y0 y1 y2 y3 y4 y5 y6 y7 y8 y9 y10, LeO (table_Encode.l2 k y0 y1 y2 y3 y4 y5 y6 y7 y8 y9 y10) (table_Encode.l2 (k + 1) y0 y1 y2 y3 y4 y5 y6 y7 y8 y9 y10))
 | 0 => ⟨fun _ _ _ _ _ _ _ _ r h => by simp [table_Encode.l0] at h, fun _ _ _ _ _ _ _ _ r h => by simp [table_Encode.l1] at h, fun _ _ _ _ _ _ _ _ _ _ _ r h => by simp [table_Encode.l2] at h⟩
 | k + 1 => by
  obtain ⟨ih0, ih1, ih2⟩ := table_Encode.mono_l k
  refine ⟨?_, ?_, ?_⟩
  ·intro y0 y1 y2 y3 y4 y5 y6 y7
   unfold table_Encode.l0
   repeat' first
   | (with_reducible exact ih0 _ _ _ _ _ _ _ _)
   | (with_reducible exact ih1 _ _ _ _ _ _ _ _)
   | (with_reducible exact ih2 _ _ _ _ _ _ _ _ _ _ _)
   | (with_reducible exact pack_Bits.mono _ _)
   | (with_reducible exact pack_Sum.mono _ _)
   | (with_reducible exact table_may.mono _ _ _ _ _)
   | (with_reducible exact LeO.refl _)
   | (with_reducible exact LeO.none _)
   | (with_reducible refine LeO.ite ?_ ?_)
   | (with_reducible refine LeO.bind ?_ (fun _ => ?_))
   | exact ih0 _ _ _ _ _ _ _ _
   | exact ih1 _ _ _ _ _ _ _ _
   | exact ih2 _ _ _ _ _ _ _ _ _ _ _
   | exact pack_Bits.mono _ _
   | exact pack_Sum.mono _ _
   | exact table_may.mono _ _ _ _ _
   | exact LeO.none _
   | refine LeO.ite ?_ ?_
   | refine LeO.bind ?_ (fun _ => ?_)
  ·intro y0 y1 y2 y3 y4 y5 y6 y7
   unfold table_Encode.l1
   repeat' first
   | (with_reducible exact ih0 _ _ _ _ _ _ _ _)
   | (with_reducible exact ih1 _ _ _ _ _ _ _ _)
   | (with_reducible exact ih2 _ _ _ _ _ _ _ _ _ _ _)
   | (with_reducible exact pack_Bits.mono _ _)
   | (with_reducible exact pack_Sum.mono _ _)
   | (with_reducible exact table_may.mono _ _ _ _ _)
   | (with_reducible exact LeO.refl _)
   | (with_reducible exact LeO.none _)
   | (with_reducible refine LeO.ite ?_ ?_)
   | (with_reducible refine LeO.bind ?_ (fun _ => ?_))
   | exact ih0 _ _ _ _ _ _ _ _
   | exact ih1 _ _ _ _ _ _ _ _
   | exact ih2 _ _ _ _ _ _ _ _ _ _ _
   | exact pack_Bits.mono _ _
   | exact pack_Sum.mono _ _
   | exact table_may.mono _ _ _ _ _
   | exact LeO.none _
   | refine LeO.ite ?_ ?_
   | refine LeO.bind ?_ (fun _ => ?_)
  ·intro y0 y1 y2 y3 y4 y5 y6 y7 y8 y9 y10
   unfold table_Encode.l2
   repeat' first
   | (with_reducible exact ih0 _ _ _ _ _ _ _ _)
   | (with_reducible exact ih1 _ _ _ _ _ _ _ _)
   | (with_reducible exact ih2 _ _ _ _ _ _ _ _ _ _ _)
   | (with_reducible exact pack_Bits.mono _ _)
   | (with_reducible exact pack_Sum.mono _ _)
   | (with_reducible exact table_may.mono _ _ _ _ _)
   | (with_reducible exact LeO.refl _)
   | (with_reducible exact LeO.none _)
   | (with_reducible refine LeO.ite ?_ ?_)
   | (with_reducible refine LeO.bind ?_ (fun _ => ?_))
   | exact ih0 _ _ _ _ _ _ _ _
   | exact ih1 _ _ _ _ _ _ _ _
   | exact ih2 _ _ _ _ _ _ _ _ _ _ _
   | exact pack_Bits.mono _ _
   | exact pack_Sum.mono _ _
   | exact table_may.mono _ _ _ _ _
   | exact LeO.none _
   | refine LeO.ite ?_ ?_
   | refine LeO.bind ?_ (fun _ => ?_)
theorem table_Encode.mono : ∀ a0 a1 a2 a3 k, LeO (table_Encode.f k a0 a1 a2 a3) (table_Encode.f (k + 1) a0 a1 a2 a3) := by
 intro a0 a1 a2 a3 k
 obtain ⟨ih0, ih1, ih2⟩ := table_Encode.mono_l k
 unfold table_Encode.f
 repeat' first
   | (with_reducible exact ih0 _ _ _ _ _ _ _ _)
   | (with_reducible exact ih1 _ _ _ _ _ _ _ _)
   | (with_reducible exact ih2 _ _ _ _ _ _ _ _ _ _ _)
   | (with_reducible exact pack_Bits.mono _ _)
   | (with_reducible exact pack_Sum.mono _ _)
   | (with_reducible exact table_may.mono _ _ _ _ _)
   | (with_reducible exact LeO.refl _)
   | (with_reducible exact LeO.none _)
   | (with_reducible refine LeO.ite ?_ ?_)
   | (with_reducible refine LeO.bind ?_ (fun _ => ?_))
   | exact ih0 _ _ _ _ _ _ _ _
   | exact ih1 _ _ _ _ _ _ _ _
   | exact ih2 _ _ _ _ _ _ _ _ _ _ _
   | exact pack_Bits.mono _ _
   | exact pack_Sum.mono _ _
   | exact table_may.mono _ _ _ _ _
   | exact LeO.none _
   | refine LeO.ite ?_ ?_
   | refine LeO.bind ?_ (fun _ => ?_)
def table_Encode.T4 : Bool × List (List Nat × List Nat) := (true, [([], []), ([], []), ([1], [1]), ([2], [2]), ([], []), ([4], [4]), ([5], [5]), ([6], [6]), ([], []), ([8], [8]), ([9], [9]), ([10], [10]), ([3, 7, 11], [3, 7, 11]), ([0, 12], [0, 12]), ([13, 13, 0, 1, 2, 3, 4, 5, 6, 7, 8, 9, 10, 11, 12, 13], [13])])
def table_Encode.B4 : List Nat := [0, 0, 2, 6, 0, 16, 48, 112, 0, 256, 768, 1792, 4094, 8191, 16383]
theorem table_Encode.tab4 : rtab .any (opsOf Try.f12 4) = table_Encode.T4 := by kernel_rfl
theorem table_Encode.bits4 : waitsOk table_Encode.T4.2 table_Encode.B4 = true := by kernel_rfl
def table_Encode.T8 : Bool × List (List Nat × List Nat) := (true, [([], []), ([], []), ([1], [1]), ([0, 2], [0, 2]), ([], []), ([4], [4]), ([5], [5]), ([6], [6]), ([3, 7, 3], [3, 7]), ([8, 8, 0, 1, 2, 3, 4, 5, 6, 7, 8], [0, 8])])
def table_Encode.B8 : List Nat := [0, 0, 2, 7, 0, 16, 48, 112, 255, 511]
theorem table_Encode.tab8 : rtab .any (opsOf Try.f12 8) = table_Encode.T8 := by kernel_rfl
theorem table_Encode.bits8 : waitsOk table_Encode.T8.2 table_Encode.B8 = true := by kernel_rfl
set_option maxHeartbeats 8000000 in
set_option maxRecDepth 100000 in
theorem table_Encode.calls (k : Nat) (a0_0 : Int) (A0_1 : Option Addr) (c0_1 : Nat) (l0_1 : List (S52)) (A0_2 : Option Addr) (c0_2 : Nat) (l0_2 : List (List Int)) (A0_3 : Option Addr) (c0_3 : Nat) (l0_3 : List Bool) (r1 : List Int) (r2 : Bool) (w : World) (hr0_1 : Kd.C k52 w A0_1 l0_1.length l0_1) (hc0_1 : l0_1.length ≤ c0_1) (hr0_2 : Kd.C (Kd.slice 3 (Kd.int .i64)) w A0_2 l0_2.length l0_2) (hc0_2 : l0_2.length ≤ c0_2) (hr0_3 : Kd.C Kd.bool w A0_3 l0_3.length l0_3) (hc0_3 : l0_3.length ≤ c0_3) (h : table_Encode.f k a0_0 l0_1 l0_2 l0_3 = some (r1, r2)) :
  Calls Try.prog 12 #[.agg #[.int .i64 a0_0, .slice A0_1 l0_1.length c0_1, .slice A0_2 l0_2.length c0_2, .slice A0_3 l0_3.length c0_3]] w fun e w' => ∃ v0_ : Value, e = .returned (.tuple #[v0_, .bool r2]) ∧ Kd.R (Kd.int .u8) 5 w' w.heap.size (fun _ => True) v0_ r1 ∧ Below w.heap.size w w' := by
 have hu26 := Try.underlying26
 have hu61 := Try.underlying61
 have hu52 := Try.underlying52
 have hsl_ : ∀ (W : World) (b : Nat), (Instr.sliceAt 61 (.pointer (some ⟨b, 0, none⟩)) none none none).run Try.prog W = .ok (.slice (some ⟨b, 0, none⟩) 4 4) W := fun W b => XFn.slice_all (s := 1) 61 Try.underlying61 (by kernel_rfl) (fun _ => by kernel_rfl) W b
 have HR0_1 := Aside0.mk hr0_1
 have HC0_1 := Aside0.mk hc0_1
 clear hr0_1 hc0_1
 have HR0_2 := Aside0.mk hr0_2
 have HC0_2 := Aside0.mk hc0_2
 clear hr0_2 hc0_2
 have HR0_3 := Aside0.mk hr0_3
 have HC0_3 := Aside0.mk hc0_3
 clear hr0_3 hc0_3
 have HB := Aside0.mk (Below.refl w.heap.size w)
 have H : ((table_may.f k a0_0 l0_1 l0_2 l0_3).bind fun t128 => (if t128 = true then ((table_known.f).bind fun bt129 => ((some (([(a0_0) % 256, ((l0_2.length : Int)) % 256, ((l0_1.length : Int)) % 256] : List Int) : List Int)).bind fun y134 => (if ([bt129.1, bt129.2.1, bt129.2.2.1, bt129.2.2.2] : List Int).length + y134.length < 140737488355328 then (table_Encode.l0 k (([bt129.1, bt129.2.1, bt129.2.2.1, bt129.2.2.2] : List Int) ++ y134) l0_1 (l0_1.length : Int) 0 a0_0 l0_1 l0_2 l0_3) else (none)))) else (some (([] : List Int), false)))) = some (r1, r2) := h
 clear h
 replace H := Option.bind_eq_some_iff.mp H
 obtain ⟨t128, A20, H⟩ := H
 replace H : (if t128 = true then ((table_known.f).bind fun bt129 => ((some (([(a0_0) % 256, ((l0_2.length : Int)) % 256, ((l0_1.length : Int)) % 256] : List Int) : List Int)).bind fun y134 => (if ([bt129.1, bt129.2.1, bt129.2.2.1, bt129.2.2.2] : List Int).length + y134.length < 140737488355328 then (table_Encode.l0 k (([bt129.1, bt129.2.1, bt129.2.2.1, bt129.2.2.2] : List Int) ++ y134) l0_1 (l0_1.length : Int) 0 a0_0 l0_1 l0_2 l0_3) else (none)))) else (some (([] : List Int), false))) = some (r1, r2) := H
 have A2 := Aside0.mk A20
 clear A20
 by_cases c3 : t128 = true
 ·subst c3
  have H1 : ((table_known.f).bind fun bt129 => ((some (([(a0_0) % 256, ((l0_2.length : Int)) % 256, ((l0_1.length : Int)) % 256] : List Int) : List Int)).bind fun y134 => (if ([bt129.1, bt129.2.1, bt129.2.2.1, bt129.2.2.2] : List Int).length + y134.length < 140737488355328 then (table_Encode.l0 k (([bt129.1, bt129.2.1, bt129.2.2.1, bt129.2.2.2] : List Int) ++ y134) l0_1 (l0_1.length : Int) 0 a0_0 l0_1 l0_2 l0_3) else (none)))) = some (r1, r2) := by rw [if_pos rfl] at H; exact H
  clear H
  have H := H1
  clear H1
  replace H := Option.bind_eq_some_iff.mp H
  obtain ⟨⟨t129, t130, t131, t132⟩, A40, H⟩ := H
  replace H : ((some (([(a0_0) % 256, ((l0_2.length : Int)) % 256, ((l0_1.length : Int)) % 256] : List Int) : List Int)).bind fun y134 => (if ([t129, t130, t131, t132] : List Int).length + y134.length < 140737488355328 then (table_Encode.l0 k (([t129, t130, t131, t132] : List Int) ++ y134) l0_1 (l0_1.length : Int) 0 a0_0 l0_1 l0_2 l0_3) else (none))) = some (r1, r2) := H
  have A4 := Aside0.mk A40
  clear A40
  obtain ⟨y134, hy134⟩ : ∃ y_ : List Int, y_ = (([(a0_0) % 256, ((l0_2.length : Int)) % 256, ((l0_1.length : Int)) % 256] : List Int)) := ⟨_, rfl⟩
  replace H : (if ([t129, t130, t131, t132] : List Int).length + y134.length < 140737488355328 then (table_Encode.l0 k (([t129, t130, t131, t132] : List Int) ++ y134) l0_1 (l0_1.length : Int) 0 a0_0 l0_1 l0_2 l0_3) else (none)) = some (r1, r2) := by first | (rw [hy134]; with_reducible exact H) | (have H2_ := (Option.bind_some _ _).symm.trans H; rw [hy134]; with_reducible exact H2_) | (have H2_ := (Option.bind_some _ _).symm.trans H; with_reducible exact H2_) | with_reducible exact H | (rw [hy134]; exact H) | exact H
  have Ny134 := Aside0.mk hy134
  clear hy134
  by_cases c5 : ([t129, t130, t131, t132] : List Int).length + y134.length < 140737488355328
  ·rw [if_pos c5] at H
   have LMc5 := Aside0.mk c5
   clear c5
   obtain ⟨y137, hy137⟩ : ∃ y_ : List Int, y_ = (([t129, t130, t131, t132] : List Int) ++ y134) := ⟨_, rfl⟩
   replace H : (table_Encode.l0 k y137 l0_1 (l0_1.length : Int) 0 a0_0 l0_1 l0_2 l0_3) = some (r1, r2) := by first | (rw [hy137]; with_reducible exact H) | (have H2_ := (Option.bind_some _ _).symm.trans H; rw [hy137]; with_reducible exact H2_) | (have H2_ := (Option.bind_some _ _).symm.trans H; with_reducible exact H2_) | with_reducible exact H | (rw [hy137]; exact H) | exact H
   have Ny137 := Aside0.mk hy137
   clear hy137
   have H' := Aside0.mk H
   clear H
   go_enter Try.func12, Try.ntmps12
   try go_wp2_with (first | ((with_reducible refine gate_dst (N := 1) rfl ?_); refine box_event ?hg (N := 1) ?hd (cs := #[.int .i64 a0_0, .slice A0_1 l0_1.length c0_1, .slice A0_2 l0_2.length c0_2, .slice A0_3 l0_3.length c0_3]) (t := 26) ?hr ?_; (case hd => rfl); (case hg => rfl); (case hr => xgs_); intro gb127 hg w6 hbox hb; have n0_ := Aside0.mk (below_step (by repeat (first | (with_reducible first | exact HB.out | apply below_alloc | apply pw_below_drewN | apply below_drew1) | exact HB.out)) hb); have n1_ := Aside0.mk (hbox); have n2_ := Aside0.mk ((by rw [hg]; exact (below_size (by repeat (first | (with_reducible first | exact HB.out | apply below_alloc | apply pw_below_drewN | apply below_drew1) | exact HB.out))) : w.heap.size ≤ gb127)); have n3_ := Aside0.mk ((by rw [hg]; exact (below_size (by repeat (first | (with_reducible first | exact HB.out | apply below_alloc | apply pw_below_drewN | apply below_drew1) | exact HB.out))) : w.heap.size ≤ gb127)); clear HB; have HB := n0_; have BK127 := n1_; have GW127 := n2_; have GE127 := n3_; clear n0_ n1_ n2_ n3_; clear hb hbox hg; have hcz7_0 : w6.cell? ⟨gb127, 0, none⟩ = some (.int .i64 a0_0) := (blk_cell BK127.out 0).trans rfl; have hcz7_1 : w6.cell? ⟨gb127, 1, none⟩ = some (.slice A0_1 l0_1.length c0_1) := (blk_cell BK127.out 1).trans rfl; have hcz7_2 : w6.cell? ⟨gb127, 2, none⟩ = some (.slice A0_2 l0_2.length c0_2) := (blk_cell BK127.out 2).trans rfl; have hcz7_3 : w6.cell? ⟨gb127, 3, none⟩ = some (.slice A0_3 l0_3.length c0_3) := (blk_cell BK127.out 3).trans rfl; have hfz7_0 := blk_frozen BK127.out 0; have hfz7_1 := blk_frozen BK127.out 1; have hfz7_2 := blk_frozen BK127.out 2; have hfz7_3 := blk_frozen BK127.out 3) | ((with_reducible refine gate_callee (f := 25) rfl ?_); refine goesL_ (some 13) rfl rfl Try.func25 (by kernel_rfl) rfl #[.agg #[.int .i64 a0_0, .slice A0_1 l0_1.length c0_1, .slice A0_2 l0_2.length c0_2, .slice A0_3 l0_3.length c0_3]] rfl (by xlm_) ?_; (with_reducible refine (table_may.calls k a0_0 _ _ l0_1 _ _ l0_2 _ _ l0_3 true _ ?side1 ?side2 ?side3 ?side4 ?side5 ?side6 A2.out).mono ?_); (case side1 => repeat (first | exact (Kd.C_below HR0_1.out HB.out) | xkC_)); (case side2 => exact HC0_1.out); (case side3 => repeat (first | exact (Kd.C_below HR0_2.out HB.out) | xkC_)); (case side4 => exact HC0_2.out); (case side5 => repeat (first | exact (Kd.C_below HR0_3.out HB.out) | xkC_)); (case side6 => exact HC0_3.out); rintro e w8 ⟨rfl, hb⟩; refine ⟨_, rfl, ?_⟩; have n0_ := Aside0.mk (blk_below (g := gb127) (o := .cells #[.int .i64 a0_0, .slice A0_1 l0_1.length c0_1, .slice A0_2 l0_2.length c0_2, .slice A0_3 l0_3.length c0_3] 26 (0, 0)) (by xkb_; exact BK127.out) hb); have n1_ := Aside0.mk (below_step (by repeat (first | (with_reducible first | exact HB.out | apply below_alloc | apply pw_below_drewN | apply below_drew1 | refine below_set ?_ GE127.out) | exact HB.out)) hb); clear BK127; clear HB; have BK127 := n0_; have HB := n1_; clear n0_ n1_; (try clear hb); (try clear hb2); (try clear hk); (try clear hi)) | ((with_reducible refine gate_callee (f := 26) rfl ?_); refine goesL_ (some 15) rfl rfl Try.func26 (by kernel_rfl) rfl #[] rfl (by xlm_) ?_; (with_reducible refine (table_known.calls  t129 t130 t131 t132 _ A4.out).mono ?_); rintro e w9 ⟨rfl, hb⟩; refine ⟨_, rfl, ?_⟩; have n0_ := Aside0.mk (blk_below (g := gb127) (o := .cells #[.int .i64 a0_0, .slice A0_1 l0_1.length c0_1, .slice A0_2 l0_2.length c0_2, .slice A0_3 l0_3.length c0_3] 26 (0, 0)) (by xkb_; exact BK127.out) hb); have n1_ := Aside0.mk (below_step (by repeat (first | (with_reducible first | exact HB.out | apply below_alloc | apply pw_below_drewN | apply below_drew1 | refine below_set ?_ GE127.out) | exact HB.out)) hb); clear BK127; clear HB; have BK127 := n0_; have HB := n1_; clear n0_ n1_; (try clear hb); (try clear hb2); (try clear hk); (try clear hi)) | ((with_reducible refine gate_dst (N := 4) rfl ?_); refine box_event ?hg (N := 4) ?hd (cs := #[.int .u8 0, .int .u8 0, .int .u8 0, .int .u8 0]) (t := 61) ?hr ?_; (case hd => rfl); (case hg => rfl); (case hr => xgs_); intro gb133 hg w10 hbox hb; have n0_ := Aside0.mk (blk_below (g := gb127) (o := .cells #[.int .i64 a0_0, .slice A0_1 l0_1.length c0_1, .slice A0_2 l0_2.length c0_2, .slice A0_3 l0_3.length c0_3] 26 (0, 0)) (by xkb_; exact BK127.out) hb); have n1_ := Aside0.mk (below_step (by repeat (first | (with_reducible first | exact HB.out | apply below_alloc | apply pw_below_drewN | apply below_drew1 | refine below_set ?_ GE127.out) | exact HB.out)) hb); have n2_ := Aside0.mk (hbox); have n3_ := Aside0.mk ((by rw [hg]; exact (below_size (by repeat (first | (with_reducible first | exact HB.out | apply below_alloc | apply pw_below_drewN | apply below_drew1 | refine below_set ?_ GE127.out) | exact HB.out))) : w.heap.size ≤ gb133)); have n4_ := Aside0.mk ((by rw [hg]; exact (below_size (by repeat (first | (with_reducible first | exact HB.out | apply below_alloc | apply pw_below_drewN | apply below_drew1 | refine below_set ?_ GE127.out) | exact HB.out))) : w.heap.size ≤ gb133)); have n5_ := Aside0.mk ((by rw [hg]; exact Nat.ne_of_lt (blk_lt (g := gb127) (o := .cells #[.int .i64 a0_0, .slice A0_1 l0_1.length c0_1, .slice A0_2 l0_2.length c0_2, .slice A0_3 l0_3.length c0_3] 26 (0, 0)) (by xkb_; exact BK127.out)) : gb127 ≠ gb133)); have n6_ := Aside0.mk ((by rw [hg]; exact Nat.ne_of_gt (blk_lt (g := gb127) (o := .cells #[.int .i64 a0_0, .slice A0_1 l0_1.length c0_1, .slice A0_2 l0_2.length c0_2, .slice A0_3 l0_3.length c0_3] 26 (0, 0)) (by xkb_; exact BK127.out)) : gb133 ≠ gb127)); clear BK127; clear HB; have BK127 := n0_; have HB := n1_; have BK133 := n2_; have GW133 := n3_; have GE133 := n4_; have NB127_133 := n5_; have NB133_127 := n6_; clear n0_ n1_ n2_ n3_ n4_ n5_ n6_; clear hb hbox hg; have hnb11 := NB133_127.out; have hnc11 := NB127_133.out; have hcz12_0 : w10.cell? ⟨gb133, 0, none⟩ = some (.int .u8 0) := (blk_cell BK133.out 0).trans rfl; have hcz12_1 : w10.cell? ⟨gb133, 1, none⟩ = some (.int .u8 0) := (blk_cell BK133.out 1).trans rfl; have hcz12_2 : w10.cell? ⟨gb133, 2, none⟩ = some (.int .u8 0) := (blk_cell BK133.out 2).trans rfl; have hcz12_3 : w10.cell? ⟨gb133, 3, none⟩ = some (.int .u8 0) := (blk_cell BK133.out 3).trans rfl; have hfz12_0 := blk_frozen BK133.out 0; have hfz12_1 := blk_frozen BK133.out 1; have hfz12_2 := blk_frozen BK133.out 2; have hfz12_3 := blk_frozen BK133.out 3))
   have n0_ : Aside0 (((((w10.setCell ⟨gb133, 0, none⟩ (.int .u8 t129)).setCell ⟨gb133, 1, none⟩ (.int .u8 t130)).setCell ⟨gb133, 2, none⟩ (.int .u8 t131)).setCell ⟨gb133, 3, none⟩ (.int .u8 t132)).heap[gb127]? = some (.cells #[.int .i64 a0_0, .slice A0_1 l0_1.length c0_1, .slice A0_2 l0_2.length c0_2, .slice A0_3 l0_3.length c0_3] 26 (0, 0))) := ⟨by xkb_; refine blk_far ?_ NB127_133.out _; xkb_; refine blk_far ?_ NB127_133.out _; xkb_; refine blk_far ?_ NB127_133.out _; xkb_; refine blk_far ?_ NB127_133.out _; xkb_; exact BK127.out⟩
   have n1_ : Aside0 (((((w10.setCell ⟨gb133, 0, none⟩ (.int .u8 t129)).setCell ⟨gb133, 1, none⟩ (.int .u8 t130)).setCell ⟨gb133, 2, none⟩ (.int .u8 t131)).setCell ⟨gb133, 3, none⟩ (.int .u8 t132)).heap[gb133]? = some (.cells #[.int .u8 t129, .int .u8 t130, .int .u8 t131, .int .u8 t132] 61 (0, 0))) := ⟨by xkb_; refine blk_put (cs := #[.int .u8 t129, .int .u8 t130, .int .u8 t131, .int .u8 0]) ?_ 3 _ rfl; xkb_; refine blk_put (cs := #[.int .u8 t129, .int .u8 t130, .int .u8 0, .int .u8 0]) ?_ 2 _ rfl; xkb_; refine blk_put (cs := #[.int .u8 t129, .int .u8 0, .int .u8 0, .int .u8 0]) ?_ 1 _ rfl; xkb_; refine blk_put (cs := #[.int .u8 0, .int .u8 0, .int .u8 0, .int .u8 0]) ?_ 0 _ rfl; xkb_; exact BK133.out⟩
   have n2_ : Aside0 (Below w.heap.size w ((((w10.setCell ⟨gb133, 0, none⟩ (.int .u8 t129)).setCell ⟨gb133, 1, none⟩ (.int .u8 t130)).setCell ⟨gb133, 2, none⟩ (.int .u8 t131)).setCell ⟨gb133, 3, none⟩ (.int .u8 t132))) := ⟨by repeat (first | (with_reducible first | exact HB.out | apply below_alloc | apply pw_below_drewN | apply below_drew1 | refine below_set ?_ GE127.out | refine below_set ?_ GE133.out) | exact HB.out)⟩
   (try clear BK127)
   (try clear BK133)
   (try clear HB)
   generalize ((((w10.setCell ⟨gb133, 0, none⟩ (.int .u8 t129)).setCell ⟨gb133, 1, none⟩ (.int .u8 t130)).setCell ⟨gb133, 2, none⟩ (.int .u8 t131)).setCell ⟨gb133, 3, none⟩ (.int .u8 t132)) = w13 at n0_ n1_ n2_ ⊢
   have BK127 := n0_
   have BK133 := n1_
   have HB := n2_
   clear n0_ n1_ n2_
   have n0_ := Aside0.mk (blk_drew BK127.out)
   have n1_ := Aside0.mk (blk_drew BK133.out)
   have n2_ := Aside0.mk (below_drew1 HB.out)
   clear BK127
   clear BK133
   clear HB
   have BK127 := n0_
   have BK133 := n1_
   have HB := n2_
   clear n0_ n1_ n2_
   refine start_ (n := 15) (S := fun w' => w'.cell? ⟨gb127, 0, none⟩ = some (.int .i64 a0_0) ∧ w'.cell? ⟨gb127, 1, none⟩ = some (.slice A0_1 l0_1.length c0_1) ∧ w'.cell? ⟨gb127, 2, none⟩ = some (.slice A0_2 l0_2.length c0_2) ∧ w'.cell? ⟨gb127, 3, none⟩ = some (.slice A0_3 l0_3.length c0_3)) (ds := []) #[false, false, false, false, false, false, false, false, false, false, false, false, false, false, false] (by kernel_rfl) rfl rfl ⟨(blk_cell BK127.out 0).trans rfl, (blk_cell BK127.out 1).trans rfl, (blk_cell BK127.out 2).trans rfl, (blk_cell BK127.out 3).trans rfl⟩ (fun hHeld => ?_); refine with_tabW table_Encode.tab4 table_Encode.bits4 (fun HT_ HW_ => ?_)
   generalize w13.drew = w14 at BK127 BK133 HB hHeld ⊢
   refine pure_ (i := 0) (N := some 16) (v := ?_) (a' := ?_) #[true, false, false, false, false, false, false, false, false, false, false, false, false, false, false] rfl rfl (any_of HT_.out (by kernel_rfl)) (fun _ _ _ h => h) (Or.inl ⟨by rfl, ?_⟩) ?_ ?_
   rotate_left
   ·intro w'
    go_simp
    with_reducible rfl
   rotate_left
   ·xsp_ i64_w i32_w
    rfl
   refine pure_ (i := 1) (N := some 17) (v := ?_) (a' := ?_) #[true, true, false, false, false, false, false, false, false, false, false, false, false, false, false] rfl rfl (any_of HT_.out (by kernel_rfl)) (fun _ _ _ h => h) (Or.inl ⟨by rfl, ?_⟩) ?_ ?_
   rotate_left
   ·intro w'
    go_simp
    with_reducible rfl
   rotate_left
   ·xsp_ i64_w i32_w
    rfl
   refine pure_ (i := 4) (N := some 20) (v := ?_) (a' := ?_) #[true, true, false, false, true, false, false, false, false, false, false, false, false, false, false] rfl rfl (any_of HT_.out (by kernel_rfl)) (fun _ _ _ h => h) (Or.inl ⟨by rfl, ?_⟩) ?_ ?_
   rotate_left
   ·intro w'
    go_simp
    with_reducible rfl
   rotate_left
   ·xsp_ i64_w i32_w
    rfl
   refine pure_ (i := 8) (N := some 24) (v := ?_) (a' := ?_) #[true, true, false, false, true, false, false, false, true, false, false, false, false, false, false] rfl rfl (any_of HT_.out (by kernel_rfl)) (fun _ _ _ h => h) (Or.inl ⟨by rfl, ?_⟩) ?_ ?_
   rotate_left
   ·intro w'
    go_simp
    with_reducible rfl
   rotate_left
   ·xsp_ i64_w i32_w
    rfl
   refine take_ (i := 2) (N := some 18) (v := ?_) (a' := ?_) #[true, true, true, false, true, false, false, false, true, false, false, false, false, false, false] rfl rfl (take_ofW HT_.out HW_.out (by kernel_rfl)) (fun _ _ _ h => h) (Or.inl ⟨by rfl, ?_⟩) hHeld ?_ ?_
   rotate_left
   ·rintro w' ⟨s0, s1, s2, s3⟩
    go_simp
    with_reducible rfl
   rotate_left
   ·xsp_ i64_w i32_w
    rfl
   refine pure_ (i := 3) (N := some 19) (v := ?_) (a' := ?_) #[true, true, true, true, true, false, false, false, true, false, false, false, false, false, false] rfl rfl (any_of HT_.out (by kernel_rfl)) (fun _ _ _ h => h) (Or.inl ⟨by rfl, ?_⟩) ?_ ?_
   rotate_left
   ·intro w'
    go_simp
    with_reducible rfl
   rotate_left
   ·xsp_ i64_w i32_w
    rfl
   refine take_ (i := 5) (N := some 21) (v := ?_) (a' := ?_) #[true, true, true, true, true, true, false, false, true, false, false, false, false, false, false] rfl rfl (take_ofW HT_.out HW_.out (by kernel_rfl)) (fun _ _ _ h => h) (Or.inl ⟨by rfl, ?_⟩) hHeld ?_ ?_
   rotate_left
   ·rintro w' ⟨s0, s1, s2, s3⟩
    go_simp
    with_reducible rfl
   rotate_left
   ·xsp_ i64_w i32_w
    rfl
   refine pure_ (i := 6) (N := some 22) (v := ?_) (a' := ?_) #[true, true, true, true, true, true, true, false, true, false, false, false, false, false, false] rfl rfl (any_of HT_.out (by kernel_rfl)) (fun _ _ _ h => h) (Or.inl ⟨by rfl, ?_⟩) ?_ ?_
   rotate_left
   ·intro w'
    go_simp
    with_reducible rfl
   rotate_left
   ·xsp_ i64_w i32_w
    rfl
   refine pure_ (i := 7) (N := some 23) (v := ?_) (a' := ?_) #[true, true, true, true, true, true, true, true, true, false, false, false, false, false, false] rfl rfl (any_of HT_.out (by kernel_rfl)) (fun _ _ _ h => h) (Or.inl ⟨by rfl, ?_⟩) ?_ ?_
   rotate_left
   ·intro w'
    go_simp
    with_reducible rfl
   rotate_left
   ·xsp_ i64_w i32_w
    rfl
   refine take_ (i := 9) (N := some 25) (v := ?_) (a' := ?_) #[true, true, true, true, true, true, true, true, true, true, false, false, false, false, false] rfl rfl (take_ofW HT_.out HW_.out (by kernel_rfl)) (fun _ _ _ h => h) (Or.inl ⟨by rfl, ?_⟩) hHeld ?_ ?_
   rotate_left
   ·rintro w' ⟨s0, s1, s2, s3⟩
    go_simp
    with_reducible rfl
   rotate_left
   ·xsp_ i64_w i32_w
    rfl
   refine pure_ (i := 10) (N := some 26) (v := ?_) (a' := ?_) #[true, true, true, true, true, true, true, true, true, true, true, false, false, false, false] rfl rfl (any_of HT_.out (by kernel_rfl)) (fun _ _ _ h => h) (Or.inl ⟨by rfl, ?_⟩) ?_ ?_
   rotate_left
   ·intro w'
    go_simp
    with_reducible rfl
   rotate_left
   ·xsp_ i64_w i32_w
    rfl
   refine pure_ (i := 11) (N := some 27) (v := ?_) (a' := ?_) #[true, true, true, true, true, true, true, true, true, true, true, true, false, false, false] rfl rfl (any_of HT_.out (by kernel_rfl)) (fun _ _ _ h => h) (Or.inl ⟨by rfl, ?_⟩) ?_ ?_
   rotate_left
   ·intro w'
    go_simp
    with_reducible rfl
   rotate_left
   ·xsp_ i64_w i32_w
    rfl
   refine one_ (i := 12) (N := some 28) #[true, true, true, true, true, true, true, true, true, true, true, true, true, false, false] rfl rfl (one_of HT_.out (by kernel_rfl)) (by decide) (fun K hK => ?_)
   refine Kd.R_lit_step (Kd.int .u8) _ 5 ?hg (N := 28) ?hd (xs := ([(a0_0) % 256, ((l0_2.length : Int)) % 256, ((l0_1.length : Int)) % 256] : List Int)) (inner := [.int .u8 ((a0_0) % 256), .int .u8 (((l0_2.length : Int)) % 256), .int .u8 (((l0_1.length : Int)) % 256)]) (ok := fun _ => True) (okp := fun _ => True) ?hr ?hp (fun _ hk => hk) trivial (Below.refl _ _) (Nat.le_refl _) (by simp) ?_; (case hd => rfl); (case hg => rfl); (case hr => xgs_); (case hp => exact (Reps.one (show Kd.M (Kd.int .u8) _ _ _ ((a0_0) % 256) [.int .u8 ((a0_0) % 256)] from rfl) (Reps.one (show Kd.M (Kd.int .u8) _ _ _ (((l0_2.length : Int)) % 256) [.int .u8 (((l0_2.length : Int)) % 256)] from rfl) (Reps.one (show Kd.M (Kd.int .u8) _ _ _ (((l0_1.length : Int)) % 256) [.int .u8 (((l0_1.length : Int)) % 256)] from rfl) (Reps.none _ _)))))
   intro v135 w15 ho16 hb hg_ hnew_
   clear hg_ hnew_
   (first | rw [← Ny134.out] at ho16 | (simp only [Int.reduceToNat] at ho16; rw [← Ny134.out] at ho16))
   have n0_ := Aside0.mk (Kd.R_lower ho16 (below_size (by repeat (first | (with_reducible first | exact HB.out | apply below_alloc | apply pw_below_drewN | apply below_drew1 | refine below_set ?_ GE127.out | refine below_set ?_ GE133.out) | exact HB.out))))
   have n1_ := Aside0.mk (blk_below (g := gb127) (o := .cells #[.int .i64 a0_0, .slice A0_1 l0_1.length c0_1, .slice A0_2 l0_2.length c0_2, .slice A0_3 l0_3.length c0_3] 26 (0, 0)) (by xkb_; exact BK127.out) hb)
   have n2_ := Aside0.mk (blk_below (g := gb133) (o := .cells #[.int .u8 t129, .int .u8 t130, .int .u8 t131, .int .u8 t132] 61 (0, 0)) (by xkb_; exact BK133.out) hb)
   have n3_ := Aside0.mk (below_step (by repeat (first | (with_reducible first | exact HB.out | apply below_alloc | apply pw_below_drewN | apply below_drew1 | refine below_set ?_ GE127.out | refine below_set ?_ GE133.out) | exact HB.out)) hb)
   clear BK127
   clear BK133
   clear HB
   have HO136 := n0_
   have BK127 := n1_
   have BK133 := n2_
   have HB := n3_
   clear n0_ n1_ n2_ n3_
   clear hb ho16
   obtain ⟨Ao18, co18, eo18⟩ := Kd.R_slice HO136.out
   (first | subst eo18 | (injection eo18 with f1_ f2_ f3_; have f4_ := f1_.symm; have f5_ := f3_.symm; clear f1_ f2_ f3_; subst f4_; subst f5_))
   refine hK.out _ _ ⟨(blk_cell BK127.out 0).trans rfl, (blk_cell BK127.out 1).trans rfl, (blk_cell BK127.out 2).trans rfl, (blk_cell BK127.out 3).trans rfl⟩ (fun hHeld => ?_)
   clear hK K
   refine norm_ (a' := ?_) ?_ ?_
   rotate_left
   ·show Act.put _ (some 28) _ = _
    xsp_ i64_w i32_w
    rfl
   refine one_ (i := 13) (N := some 29) #[true, true, true, true, true, true, true, true, true, true, true, true, true, true, false] rfl rfl (one_of HT_.out (by kernel_rfl)) (by decide) (fun K hK => ?_)
   refine XFn.append_full_step (w0 := w) w.heap.size rfl (.tmp 16) (.tmp 28) 27 5 rfl Try.underlying27 info5 ⟨gb133, 0, none⟩ 4 [t129, t130, t131, t132] y134 (fun k_ => some k_ ≠ (.slice Ao18 y134.length co18 : Value).ownBlock) rfl rfl ?aX ?aR ?aM ?aF ?aB ?aS ?aL ?_
   (case aX => exact XFn.row4 (by xkb_; exact BK133.out))
   (case aR => repeat (first | exact (Kd.R_reads' HO136.out).2.2 | xkC_))
   (case aF => exact (fun k_ hk => Kd.fresh' (Kd.R_lt (by xkR_; exact HO136.out)) k_ hk))
   (case aB => exact (by repeat (first | (with_reducible first | exact HB.out | apply below_alloc | apply pw_below_drewN | apply below_drew1 | refine below_set ?_ GE127.out | refine below_set ?_ GE133.out) | exact HB.out)))
   (case aS => exact (below_size (by repeat (first | (with_reducible first | exact HB.out | apply below_alloc | apply pw_below_drewN | apply below_drew1 | refine below_set ?_ GE127.out | refine below_set ?_ GE133.out) | exact HB.out))))
   (case aM => rw [Ny134.out]; simp)
   (case aL => rw [Ny134.out]; simp)
   intro v138 w17 ho hb hg hat
   rw [← Ny137.out] at ho
   have n0_ := Aside0.mk (blk_grown (g := gb127) (o := .cells #[.int .i64 a0_0, .slice A0_1 l0_1.length c0_1, .slice A0_2 l0_2.length c0_2, .slice A0_3 l0_3.length c0_3] 26 (0, 0)) (by xkb_; exact BK127.out) hg (by simp [Value.ownBlock]))
   have n1_ := Aside0.mk (blk_grown (g := gb133) (o := .cells #[.int .u8 t129, .int .u8 t130, .int .u8 t131, .int .u8 t132] 61 (0, 0)) (by xkb_; exact BK133.out) hg (by simp [Value.ownBlock]))
   have n2_ := Aside0.mk (Kd.R_after (Kd.R_apart_nil (by xkR_; exact HO136.out)) hg hat)
   have n3_ := Aside0.mk (hb)
   have n4_ := Aside0.mk (ho)
   clear BK127
   clear BK133
   clear HO136
   clear HB
   have BK127 := n0_
   have BK133 := n1_
   have HO136 := n2_
   have HB := n3_
   have HO139 := n4_
   clear n0_ n1_ n2_ n3_ n4_
   clear ho hb hg hat
   refine hK.out _ _ ⟨(blk_cell BK127.out 0).trans rfl, (blk_cell BK127.out 1).trans rfl, (blk_cell BK127.out 2).trans rfl, (blk_cell BK127.out 3).trans rfl⟩ (fun hHeld => ?_)
   clear hK K
   refine norm_ (a' := ?_) ?_ ?_
   rotate_left
   ·show Act.put _ (some 29) _ = _
    xsp_ i64_w i32_w
    rfl
   refine pure_ (i := 14) (N := some 5) (v := ?_) (a' := ?_) #[true, true, true, true, true, true, true, true, true, true, true, true, true, true, true] rfl rfl (any_of HT_.out (by kernel_rfl)) (fun _ _ _ h => h) (Or.inl ⟨by rfl, ?_⟩) ?_ ?_
   rotate_left
   ·intro w'
    go_simp
    with_reducible rfl
   rotate_left
   ·xsp_ i64_w i32_w
    rfl
   refine done_ (done_of HT_.out (by kernel_rfl)) ?_
   have hcz19_0 : w17.cell? ⟨gb127, 0, none⟩ = some (.int .i64 a0_0) := (blk_cell BK127.out 0).trans rfl
   have hcz19_1 : w17.cell? ⟨gb127, 1, none⟩ = some (.slice A0_1 l0_1.length c0_1) := (blk_cell BK127.out 1).trans rfl
   have hcz19_2 : w17.cell? ⟨gb127, 2, none⟩ = some (.slice A0_2 l0_2.length c0_2) := (blk_cell BK127.out 2).trans rfl
   have hcz19_3 : w17.cell? ⟨gb127, 3, none⟩ = some (.slice A0_3 l0_3.length c0_3) := (blk_cell BK127.out 3).trans rfl
   have hfz19_0 := blk_frozen BK127.out 0
   have hfz19_1 := blk_frozen BK127.out 1
   have hfz19_2 := blk_frozen BK127.out 2
   have hfz19_3 := blk_frozen BK127.out 3
   try go_wp2
   go_loopg [5, 33] k (fun kq v5 v33 w' => ∃ (x5_1 : List Int) (x33_1 : Int), v33 = .int .i64 x33_1 ∧ Aside0 (table_Encode.l0 kq x5_1 l0_1 (l0_1.length : Int) x33_1 a0_0 l0_1 l0_2 l0_3 = some (r1, r2)) ∧ Aside0 (kq ≤ k) ∧ Aside0 (Kd.R (Kd.int .u8) 5 w' w.heap.size (fun _ => True) v5 x5_1) ∧ Aside0 (w'.heap[gb127]? = some (.cells #[.int .i64 a0_0, (.slice A0_1 l0_1.length c0_1), (.slice A0_2 l0_2.length c0_2), (.slice A0_3 l0_3.length c0_3)] 26 (0, 0))) ∧ Aside0 (w'.heap[gb133]? = some (.cells #[.int .u8 t129, .int .u8 t130, .int .u8 t131, .int .u8 t132] 61 (0, 0))) ∧ Aside0 (Below w.heap.size w w'))
   case atStart => exact ⟨(y137), (0), (by xrs_), H', ⟨Nat.le_refl _⟩, ⟨by xkR_; exact Kd.R_mono HO139.out (fun _ hk => trivial)⟩, ⟨by xkb_; exact BK127.out⟩, ⟨by xkb_; exact BK133.out⟩, ⟨by repeat (first | (with_reducible first | exact HB.out | apply below_alloc | apply pw_below_drewN | apply below_drew1 | refine below_set ?_ GE127.out | refine below_set ?_ GE133.out) | exact HB.out)⟩⟩
   case round =>
    clear H'
    xcl_ c1 c2 p2 c3 c5 c11 c12 hcz12_0 hcz12_1 hcz12_2 hcz12_3 hcz19_0 hcz19_1 hcz19_2 hcz19_3 hcz7_0 hcz7_1 hcz7_2 hcz7_3 hfz12_0 hfz12_1 hfz12_2 hfz12_3 hfz19_0 hfz19_1 hfz19_2 hfz19_3 hfz7_0 hfz7_1 hfz7_2 hfz7_3
    obtain ⟨x5_1, x33_1, rfl, HA, HK1, HO_5, BK127, BK133, HB⟩ := hrel
    cases gk with
    | zero => exact absurd HA.out (by simp [table_Encode.l0])
    | succ k1 =>
     have H := HA.out
     clear HA
     simp only [table_Encode.l0] at H
     by_cases c20 : x33_1 < (l0_1.length : Int)
     ·rw [if_pos c20] at H
      have c20b0 : decide (x33_1 < (l0_1.length : Int)) = true := decide_eq_true c20
      clear c20
      by_cases c21 : 0 ≤ x33_1
      ·rw [if_pos c21] at H
       have c21b0 : decide (0 ≤ x33_1) = true := decide_eq_true c21
       clear c21
       by_cases c22 : x33_1 < (l0_1.length : Int)
       ·rw [if_pos c22] at H
        have c22b0 : decide (x33_1 < (l0_1.length : Int)) = true := decide_eq_true c22
        clear c22
        replace H := Option.bind_eq_some_iff.mp H
        obtain ⟨t142, A230, H⟩ := H
        replace H : ((some (([((rd_T52 l0_1 x33_1).f1) % 256] : List Int) : List Int)).bind fun y145 => (if t142.length + y145.length < 140737488355328 then (table_Encode.l0 k1 (t142 ++ y145) l0_1 (l0_1.length : Int) (wrap64 (x33_1 + 1)) a0_0 l0_1 l0_2 l0_3) else (none))) = some (r1, r2) := H
        have A23 := Aside0.mk A230
        clear A230
        obtain ⟨y145, hy145⟩ : ∃ y_ : List Int, y_ = (([((rd_T52 l0_1 x33_1).f1) % 256] : List Int)) := ⟨_, rfl⟩
        replace H : (if t142.length + y145.length < 140737488355328 then (table_Encode.l0 k1 (t142 ++ y145) l0_1 (l0_1.length : Int) (wrap64 (x33_1 + 1)) a0_0 l0_1 l0_2 l0_3) else (none)) = some (r1, r2) := by first | (rw [hy145]; with_reducible exact H) | (have H2_ := (Option.bind_some _ _).symm.trans H; rw [hy145]; with_reducible exact H2_) | (have H2_ := (Option.bind_some _ _).symm.trans H; with_reducible exact H2_) | with_reducible exact H | (rw [hy145]; exact H) | exact H
        have Ny145 := Aside0.mk hy145
        clear hy145
        by_cases c24 : t142.length + y145.length < 140737488355328
        ·rw [if_pos c24] at H
         have LMc24 := Aside0.mk c24
         clear c24
         obtain ⟨y148, hy148⟩ : ∃ y_ : List Int, y_ = (t142 ++ y145) := ⟨_, rfl⟩
         replace H : (table_Encode.l0 k1 y148 l0_1 (l0_1.length : Int) (wrap64 (x33_1 + 1)) a0_0 l0_1 l0_2 l0_3) = some (r1, r2) := by first | (rw [hy148]; with_reducible exact H) | (have H2_ := (Option.bind_some _ _).symm.trans H; rw [hy148]; with_reducible exact H2_) | (have H2_ := (Option.bind_some _ _).symm.trans H; with_reducible exact H2_) | with_reducible exact H | (rw [hy148]; exact H) | exact H
         have Ny148 := Aside0.mk hy148
         clear hy148
         have H' := Aside0.mk H
         clear H
         have p140 : 0 ≤ (x33_1 : Int) := of_decide_eq_true (by xas_)
         have q140 : x33_1 < (l0_1.length : Int) := of_decide_eq_true (by xas_)
         obtain ⟨ad140, e140, hx140_0, hx140_1⟩ := at_T52 HR0_1.out x33_1 p140 q140
         cases e140
         replace hx140_0 := (HB.out.cell (World.block_lt_of_cell? w _ hx140_0)).trans hx140_0
         replace hx140_1 := (HB.out.cell (World.block_lt_of_cell? w _ hx140_1)).trans hx140_1
         replace p140 := eq_true p140
         replace q140 := eq_true q140
         try go_wp2_with (first | ((with_reducible refine gate_dst (N := 7) rfl ?_); refine box_event ?hg (N := 7) ?hd (cs := #[.int .i64 0, .int .i64 0]) (t := 52) ?hr ?_; (case hd => rfl); (case hg => rfl); (case hr => xgs_); intro gb141 hg w25 hbox hb; have n0_ := Aside0.mk (Kd.R_below (by xkR_; exact HO_5.out) hb); have n1_ := Aside0.mk (blk_below (g := gb127) (o := .cells #[.int .i64 a0_0, .slice (some ad140) l0_1.length c0_1, .slice A0_2 l0_2.length c0_2, .slice A0_3 l0_3.length c0_3] 26 (0, 0)) (by xkb_; exact BK127.out) hb); have n2_ := Aside0.mk (blk_below (g := gb133) (o := .cells #[.int .u8 t129, .int .u8 t130, .int .u8 t131, .int .u8 t132] 61 (0, 0)) (by xkb_; exact BK133.out) hb); have n3_ := Aside0.mk (below_step (by repeat (first | (with_reducible first | exact HB.out | apply below_alloc | apply pw_below_drewN | apply below_drew1 | refine below_set ?_ GE127.out | refine below_set ?_ GE133.out) | exact HB.out)) hb); have n4_ := Aside0.mk (hbox); have n5_ := Aside0.mk ((by rw [hg]; exact (below_size (by repeat (first | (with_reducible first | exact HB.out | apply below_alloc | apply pw_below_drewN | apply below_drew1 | refine below_set ?_ GE127.out | refine below_set ?_ GE133.out) | exact HB.out))) : w.heap.size ≤ gb141)); have n6_ := Aside0.mk ((by rw [hg]; exact (below_size (by repeat (first | (with_reducible first | exact HB.out | apply below_alloc | apply pw_below_drewN | apply below_drew1 | refine below_set ?_ GE127.out | refine below_set ?_ GE133.out) | exact HB.out))) : w.heap.size ≤ gb141)); have n7_ := Aside0.mk ((by rw [hg]; exact Nat.ne_of_lt (blk_lt (g := gb127) (o := .cells #[.int .i64 a0_0, .slice (some ad140) l0_1.length c0_1, .slice A0_2 l0_2.length c0_2, .slice A0_3 l0_3.length c0_3] 26 (0, 0)) (by xkb_; exact BK127.out)) : gb127 ≠ gb141)); have n8_ := Aside0.mk ((by rw [hg]; exact Nat.ne_of_gt (blk_lt (g := gb127) (o := .cells #[.int .i64 a0_0, .slice (some ad140) l0_1.length c0_1, .slice A0_2 l0_2.length c0_2, .slice A0_3 l0_3.length c0_3] 26 (0, 0)) (by xkb_; exact BK127.out)) : gb141 ≠ gb127)); have n9_ := Aside0.mk ((by rw [hg]; exact Nat.ne_of_lt (blk_lt (g := gb133) (o := .cells #[.int .u8 t129, .int .u8 t130, .int .u8 t131, .int .u8 t132] 61 (0, 0)) (by xkb_; exact BK133.out)) : gb133 ≠ gb141)); have n10_ := Aside0.mk ((by rw [hg]; exact Nat.ne_of_gt (blk_lt (g := gb133) (o := .cells #[.int .u8 t129, .int .u8 t130, .int .u8 t131, .int .u8 t132] 61 (0, 0)) (by xkb_; exact BK133.out)) : gb141 ≠ gb133)); clear HO_5; clear BK127; clear BK133; clear HB; have HO_5 := n0_; have BK127 := n1_; have BK133 := n2_; have HB := n3_; have BK141 := n4_; have GW141 := n5_; have GE141 := n6_; have NB127_141 := n7_; have NB141_127 := n8_; have NB133_141 := n9_; have NB141_133 := n10_; clear n0_ n1_ n2_ n3_ n4_ n5_ n6_ n7_ n8_ n9_ n10_; clear hb hbox hg; have hnb26 := NB141_127.out; have hnc26 := NB127_141.out; have hnb27 := NB141_133.out; have hnc27 := NB133_141.out; have hcz28_0 : w25.cell? ⟨gb141, 0, none⟩ = some (.int .i64 0) := (blk_cell BK141.out 0).trans rfl; have hcz28_1 : w25.cell? ⟨gb141, 1, none⟩ = some (.int .i64 0) := (blk_cell BK141.out 1).trans rfl; have hfz28_0 := blk_frozen BK141.out 0; have hfz28_1 := blk_frozen BK141.out 1; obtain ⟨Ao29, co29, eo29⟩ := Kd.R_slice HO_5.out; subst eo29))
         have n0_ : Aside0 (Kd.R (Kd.int .u8) 5 ((w25.setCell ⟨gb141, 0, none⟩ (.int .i64 ((rd_T52 l0_1 x33_1).f0))).setCell ⟨gb141, 1, none⟩ (.int .i64 ((rd_T52 l0_1 x33_1).f1))) w.heap.size (fun _ => True) (.slice Ao29 x5_1.length co29) x5_1) := ⟨by xkR_; exact Kd.R_mono (Kd.R_far (p := ⟨gb141, 1, none⟩) (Kd.R_far (p := ⟨gb141, 0, none⟩) (Kd.R_types HO_5.out BK141.out (by decide)) (fun _ hk => hk.2) (.int .i64 ((rd_T52 l0_1 x33_1).f0))) (fun _ hk => hk.2) (.int .i64 ((rd_T52 l0_1 x33_1).f1))) (fun _ hk => trivial)⟩
         have n1_ : Aside0 (((w25.setCell ⟨gb141, 0, none⟩ (.int .i64 ((rd_T52 l0_1 x33_1).f0))).setCell ⟨gb141, 1, none⟩ (.int .i64 ((rd_T52 l0_1 x33_1).f1))).heap[gb127]? = some (.cells #[.int .i64 a0_0, .slice (some ad140) l0_1.length c0_1, .slice A0_2 l0_2.length c0_2, .slice A0_3 l0_3.length c0_3] 26 (0, 0))) := ⟨by xkb_; refine blk_far ?_ NB127_141.out _; xkb_; refine blk_far ?_ NB127_141.out _; xkb_; exact BK127.out⟩
         have n2_ : Aside0 (((w25.setCell ⟨gb141, 0, none⟩ (.int .i64 ((rd_T52 l0_1 x33_1).f0))).setCell ⟨gb141, 1, none⟩ (.int .i64 ((rd_T52 l0_1 x33_1).f1))).heap[gb133]? = some (.cells #[.int .u8 t129, .int .u8 t130, .int .u8 t131, .int .u8 t132] 61 (0, 0))) := ⟨by xkb_; refine blk_far ?_ NB133_141.out _; xkb_; refine blk_far ?_ NB133_141.out _; xkb_; exact BK133.out⟩
         have n3_ : Aside0 (((w25.setCell ⟨gb141, 0, none⟩ (.int .i64 ((rd_T52 l0_1 x33_1).f0))).setCell ⟨gb141, 1, none⟩ (.int .i64 ((rd_T52 l0_1 x33_1).f1))).heap[gb141]? = some (.cells #[.int .i64 ((rd_T52 l0_1 x33_1).f0), .int .i64 ((rd_T52 l0_1 x33_1).f1)] 52 (0, 0))) := ⟨by xkb_; refine blk_put (cs := #[.int .i64 ((rd_T52 l0_1 x33_1).f0), .int .i64 0]) ?_ 1 _ rfl; xkb_; refine blk_put (cs := #[.int .i64 0, .int .i64 0]) ?_ 0 _ rfl; xkb_; exact BK141.out⟩
         have n4_ : Aside0 (Below w.heap.size w ((w25.setCell ⟨gb141, 0, none⟩ (.int .i64 ((rd_T52 l0_1 x33_1).f0))).setCell ⟨gb141, 1, none⟩ (.int .i64 ((rd_T52 l0_1 x33_1).f1)))) := ⟨by repeat (first | (with_reducible first | exact HB.out | apply below_alloc | apply pw_below_drewN | apply below_drew1 | refine below_set ?_ GE127.out | refine below_set ?_ GE133.out | refine below_set ?_ GE141.out) | exact HB.out)⟩
         (try clear HO_5)
         (try clear BK127)
         (try clear BK133)
         (try clear BK141)
         (try clear HB)
         generalize ((w25.setCell ⟨gb141, 0, none⟩ (.int .i64 ((rd_T52 l0_1 x33_1).f0))).setCell ⟨gb141, 1, none⟩ (.int .i64 ((rd_T52 l0_1 x33_1).f1))) = w30 at n0_ n1_ n2_ n3_ n4_ ⊢
         have HO_5 := n0_
         have BK127 := n1_
         have BK133 := n2_
         have BK141 := n3_
         have HB := n4_
         clear n0_ n1_ n2_ n3_ n4_
         have n0_ := Aside0.mk (Kd.R_drew HO_5.out)
         have n1_ := Aside0.mk (blk_drew BK127.out)
         have n2_ := Aside0.mk (blk_drew BK133.out)
         have n3_ := Aside0.mk (blk_drew BK141.out)
         have n4_ := Aside0.mk (below_drew1 HB.out)
         clear HO_5
         clear BK127
         clear BK133
         clear BK141
         clear HB
         have HO_5 := n0_
         have BK127 := n1_
         have BK133 := n2_
         have BK141 := n3_
         have HB := n4_
         clear n0_ n1_ n2_ n3_ n4_
         refine start_ (n := 10) (S := fun w' => w'.cell? ⟨gb141, 0, none⟩ = some (.int .i64 ((rd_T52 l0_1 x33_1).f0)) ∧ w'.cell? ⟨gb141, 1, none⟩ = some (.int .i64 ((rd_T52 l0_1 x33_1).f1))) (ds := []) #[false, false, false, false, false, false, false, false, false, false] (by kernel_rfl) rfl rfl ⟨(blk_cell BK141.out 0).trans rfl, (blk_cell BK141.out 1).trans rfl⟩ (fun hHeld => ?_); refine with_tabW table_Encode.tab8 table_Encode.bits8 (fun HT_ HW_ => ?_)
         generalize w30.drew = w31 at HO_5 BK127 BK133 BK141 HB hHeld ⊢
         refine pure_ (i := 0) (N := some 37) (v := ?_) (a' := ?_) #[true, false, false, false, false, false, false, false, false, false] rfl rfl (any_of HT_.out (by kernel_rfl)) (fun _ _ _ h => h) (Or.inl ⟨by rfl, ?_⟩) ?_ ?_
         rotate_left
         ·intro w'
          go_simp
          with_reducible rfl
         rotate_left
         ·xsp_ i64_w i32_w
          rfl
         refine pure_ (i := 1) (N := some 38) (v := ?_) (a' := ?_) #[true, true, false, false, false, false, false, false, false, false] rfl rfl (any_of HT_.out (by kernel_rfl)) (fun _ _ _ h => h) (Or.inl ⟨by rfl, ?_⟩) ?_ ?_
         rotate_left
         ·intro w'
          go_simp
          with_reducible rfl
         rotate_left
         ·xsp_ i64_w i32_w
          rfl
         refine pure_ (i := 4) (N := some 41) (v := ?_) (a' := ?_) #[true, true, false, false, true, false, false, false, false, false] rfl rfl (any_of HT_.out (by kernel_rfl)) (fun _ _ _ h => h) (Or.inl ⟨by rfl, ?_⟩) ?_ ?_
         rotate_left
         ·intro w'
          go_simp
          with_reducible rfl
         rotate_left
         ·xsp_ i64_w i32_w
          rfl
         refine take_ (i := 2) (N := some 39) (v := ?_) (a' := ?_) #[true, true, true, false, true, false, false, false, false, false] rfl rfl (take_ofW HT_.out HW_.out (by kernel_rfl)) (fun _ _ _ h => h) (Or.inl ⟨by rfl, ?_⟩) hHeld ?_ ?_
         rotate_left
         ·rintro w' ⟨s0, s1⟩
          go_simp
          with_reducible rfl
         rotate_left
         ·xsp_ i64_w i32_w
          rfl
         refine take_ (i := 5) (N := some 42) (v := ?_) (a' := ?_) #[true, true, true, false, true, true, false, false, false, false] rfl rfl (take_ofW HT_.out HW_.out (by kernel_rfl)) (fun _ _ _ h => h) (Or.inl ⟨by rfl, ?_⟩) hHeld ?_ ?_
         rotate_left
         ·rintro w' ⟨s0, s1⟩
          go_simp
          with_reducible rfl
         rotate_left
         ·xsp_ i64_w i32_w
          rfl
         refine pure_ (i := 6) (N := some 43) (v := ?_) (a' := ?_) #[true, true, true, false, true, true, true, false, false, false] rfl rfl (any_of HT_.out (by kernel_rfl)) (fun _ _ _ h => h) (Or.inl ⟨by rfl, ?_⟩) ?_ ?_
         rotate_left
         ·intro w'
          go_simp
          with_reducible rfl
         rotate_left
         ·xsp_ i64_w i32_w
          rfl
         refine join_ (σ := Value × Value) 2 #[true, true, true, true, true, true, true, true, false, false] (fun s_ => [(40, s_.1), (44, s_.2)]) (fun s_ w' => (w'.cell? ⟨gb141, 0, none⟩ = some (.int .i64 ((rd_T52 l0_1 x33_1).f0)) ∧ w'.cell? ⟨gb141, 1, none⟩ = some (.int .i64 ((rd_T52 l0_1 x33_1).f1))) ∧ (Kd.R (Kd.int .u8) 5 w' w.heap.size (fun k_ => some k_ ≠ (s_.2 : Value).ownBlock ∧ some k_ ≠ (.slice Ao29 x5_1.length co29 : Value).ownBlock) s_.1 t142) ∧ (Kd.R (Kd.int .u8) 5 w' w.heap.size (fun k_ => some k_ ≠ (s_.1 : Value).ownBlock ∧ some k_ ≠ (.slice Ao29 x5_1.length co29 : Value).ownBlock) s_.2 y145) ∧ (Kd.R (Kd.int .u8) 5 w' w.heap.size (fun k_ => some k_ ≠ (s_.1 : Value).ownBlock ∧ some k_ ≠ (s_.2 : Value).ownBlock) (.slice Ao29 x5_1.length co29) x5_1) ∧ (w'.heap[gb127]? = some (.cells #[.int .i64 a0_0, .slice (some ad140) l0_1.length c0_1, .slice A0_2 l0_2.length c0_2, .slice A0_3 l0_3.length c0_3] 26 (0, 0))) ∧ (w'.heap[gb133]? = some (.cells #[.int .u8 t129, .int .u8 t130, .int .u8 t131, .int .u8 t132] 61 (0, 0))) ∧ (w'.heap[gb141]? = some (.cells #[.int .i64 ((rd_T52 l0_1 x33_1).f0), .int .i64 ((rd_T52 l0_1 x33_1).f1)] 52 (0, 0))) ∧ (Below w.heap.size w w')) ?_ ?_
         rotate_left
         ·intro hCont
          refine two_ (i := 3) (j := 7) (Ni := some 40) (Nj := some 44) #[true, true, true, true, true, true, true, false, false, false] #[true, true, true, false, true, true, true, true, false, false] rfl rfl rfl rfl (two_of HT_.out (by kernel_rfl)) (by decide) (by decide) (fun K hK => ?_) (fun K hK => ?_)
          ·skip
           refine goes_ Try.func27 (by kernel_rfl) rfl #[.slice Ao29 x5_1.length co29, .int .i64 ((rd_T52 l0_1 x33_1).f0), .int .i64 3] (by rfl) rfl rfl (by xlm_) ?_
           with_reducible refine (pack_Put.calls _ _ x5_1 ((rd_T52 l0_1 x33_1).f0) 3 t142 _ ?side1 ?side2 A23.out).mono ?_
           (case side1 => repeat (first | exact (Kd.R_reads' HO_5.out).2.2 | xkC_))
           (case side2 => exact (Kd.R_reads' HO_5.out).2.1)
           rintro e w32 ⟨v143, rfl, ho0, hb⟩
           refine ⟨_, rfl, ?_⟩
           have n0_ := Aside0.mk (Kd.R_elder' (by xkR_; exact HO_5.out) (Kd.R_base ho0) hb)
           have n1_ := Aside0.mk (Kd.R_lower (Kd.R_new' ho0 (Kd.R_lt (by xkR_; exact HO_5.out))) (below_size (by repeat (first | (with_reducible first | exact HB.out | apply below_alloc | apply pw_below_drewN | apply below_drew1 | refine below_set ?_ GE127.out | refine below_set ?_ GE133.out | refine below_set ?_ GE141.out) | exact HB.out))))
           have n2_ := Aside0.mk (blk_below (g := gb127) (o := .cells #[.int .i64 a0_0, .slice (some ad140) l0_1.length c0_1, .slice A0_2 l0_2.length c0_2, .slice A0_3 l0_3.length c0_3] 26 (0, 0)) (by xkb_; exact BK127.out) hb)
           have n3_ := Aside0.mk (blk_below (g := gb133) (o := .cells #[.int .u8 t129, .int .u8 t130, .int .u8 t131, .int .u8 t132] 61 (0, 0)) (by xkb_; exact BK133.out) hb)
           have n4_ := Aside0.mk (blk_below (g := gb141) (o := .cells #[.int .i64 ((rd_T52 l0_1 x33_1).f0), .int .i64 ((rd_T52 l0_1 x33_1).f1)] 52 (0, 0)) (by xkb_; exact BK141.out) hb)
           have n5_ := Aside0.mk (below_step (by repeat (first | (with_reducible first | exact HB.out | apply below_alloc | apply pw_below_drewN | apply below_drew1 | refine below_set ?_ GE127.out | refine below_set ?_ GE133.out | refine below_set ?_ GE141.out) | exact HB.out)) hb)
           clear HO_5
           clear BK127
           clear BK133
           clear BK141
           clear HB
           have HO_5 := n0_
           have HO144 := n1_
           have BK127 := n2_
           have BK133 := n3_
           have BK141 := n4_
           have HB := n5_
           clear n0_ n1_ n2_ n3_ n4_ n5_
           (try clear hb)
           (try clear hb2)
           (try clear hk)
           (try clear hi)
           (try clear ho0)
           refine hK.out _ _ ⟨(blk_cell BK141.out 0).trans rfl, (blk_cell BK141.out 1).trans rfl⟩ (fun hHeld => ?_)
           clear hK K
           refine norm_ (a' := ?_) ?_ ?_
           rotate_left
           ·show Act.put _ (some 40) _ = _
            xsp_ i64_w i32_w
            rfl
           refine one_ (i := 7) (N := some 44) #[true, true, true, true, true, true, true, true, false, false] rfl rfl (one_of HT_.out (by kernel_rfl)) (by decide) (fun K hK => ?_)
           refine Kd.R_lit_step (Kd.int .u8) _ 5 ?hg (N := 44) ?hd (xs := ([((rd_T52 l0_1 x33_1).f1) % 256] : List Int)) (inner := [.int .u8 (((rd_T52 l0_1 x33_1).f1) % 256)]) (ok := fun _ => True) (okp := fun _ => True) ?hr ?hp (fun _ hk => hk) trivial (Below.refl _ _) (Nat.le_refl _) (by simp) ?_; (case hd => rfl); (case hg => rfl); (case hr => xgs_); (case hp => exact (Reps.one (show Kd.M (Kd.int .u8) _ _ _ (((rd_T52 l0_1 x33_1).f1) % 256) [.int .u8 (((rd_T52 l0_1 x33_1).f1) % 256)] from rfl) (Reps.none _ _)))
           intro v146 w33 ho34 hb hg_ hnew_
           clear hg_ hnew_
           (first | rw [← Ny145.out] at ho34 | (simp only [Int.reduceToNat] at ho34; rw [← Ny145.out] at ho34))
           have n0_ := Aside0.mk (Kd.R_elder' (by xkR_; exact HO_5.out) (Kd.R_base ho34) hb)
           have n1_ := Aside0.mk (Kd.R_elder' (by xkR_; exact HO144.out) (Kd.R_base ho34) hb)
           have n2_ := Aside0.mk (Kd.R_lower (Kd.R_new' (Kd.R_new' ho34 (Kd.R_lt (by xkR_; exact HO_5.out))) (Kd.R_lt (by xkR_; exact HO144.out))) (below_size (by repeat (first | (with_reducible first | exact HB.out | apply below_alloc | apply pw_below_drewN | apply below_drew1 | refine below_set ?_ GE127.out | refine below_set ?_ GE133.out | refine below_set ?_ GE141.out) | exact HB.out))))
           have n3_ := Aside0.mk (blk_below (g := gb127) (o := .cells #[.int .i64 a0_0, .slice (some ad140) l0_1.length c0_1, .slice A0_2 l0_2.length c0_2, .slice A0_3 l0_3.length c0_3] 26 (0, 0)) (by xkb_; exact BK127.out) hb)
           have n4_ := Aside0.mk (blk_below (g := gb133) (o := .cells #[.int .u8 t129, .int .u8 t130, .int .u8 t131, .int .u8 t132] 61 (0, 0)) (by xkb_; exact BK133.out) hb)
           have n5_ := Aside0.mk (blk_below (g := gb141) (o := .cells #[.int .i64 ((rd_T52 l0_1 x33_1).f0), .int .i64 ((rd_T52 l0_1 x33_1).f1)] 52 (0, 0)) (by xkb_; exact BK141.out) hb)
           have n6_ := Aside0.mk (below_step (by repeat (first | (with_reducible first | exact HB.out | apply below_alloc | apply pw_below_drewN | apply below_drew1 | refine below_set ?_ GE127.out | refine below_set ?_ GE133.out | refine below_set ?_ GE141.out) | exact HB.out)) hb)
           clear HO_5
           clear HO144
           clear BK127
           clear BK133
           clear BK141
           clear HB
           have HO_5 := n0_
           have HO144 := n1_
           have HO147 := n2_
           have BK127 := n3_
           have BK133 := n4_
           have BK141 := n5_
           have HB := n6_
           clear n0_ n1_ n2_ n3_ n4_ n5_ n6_
           clear hb ho34
           refine hK.out _ _ ⟨(blk_cell BK141.out 0).trans rfl, (blk_cell BK141.out 1).trans rfl⟩ (fun hHeld => ?_)
           clear hK K
           refine norm_ (a' := ?_) ?_ ?_
           rotate_left
           ·show Act.put _ (some 44) _ = _
            xsp_ i64_w i32_w
            rfl
           exact norm_ (by simp only [putAll, Act.put, List.setIfInBounds_toArray, List.set_cons_zero, List.set_cons_succ]) (hCont (v143, v146) _ ⟨hHeld, (by xkR_; exact Kd.R_mono HO144.out (fun _ hk => ⟨hk.2, hk.1.2⟩)), (by xkR_; exact Kd.R_mono HO147.out (fun _ hk => ⟨hk.2, hk.1.2⟩)), (by xkR_; exact Kd.R_mono HO_5.out (fun _ hk => ⟨hk.1.2, hk.2⟩)), (by xkb_; exact BK127.out), (by xkb_; exact BK133.out), (by xkb_; exact BK141.out), (by repeat (first | (with_reducible first | exact HB.out | apply below_alloc | apply pw_below_drewN | apply below_drew1 | refine below_set ?_ GE127.out | refine below_set ?_ GE133.out | refine below_set ?_ GE141.out) | exact HB.out))⟩)
          ·skip
           refine Kd.R_lit_step (Kd.int .u8) _ 5 ?hg (N := 44) ?hd (xs := ([((rd_T52 l0_1 x33_1).f1) % 256] : List Int)) (inner := [.int .u8 (((rd_T52 l0_1 x33_1).f1) % 256)]) (ok := fun _ => True) (okp := fun _ => True) ?hr ?hp (fun _ hk => hk) trivial (Below.refl _ _) (Nat.le_refl _) (by simp) ?_; (case hd => rfl); (case hg => rfl); (case hr => xgs_); (case hp => exact (Reps.one (show Kd.M (Kd.int .u8) _ _ _ (((rd_T52 l0_1 x33_1).f1) % 256) [.int .u8 (((rd_T52 l0_1 x33_1).f1) % 256)] from rfl) (Reps.none _ _)))
           intro v146 w32 ho33 hb hg_ hnew_
           clear hg_ hnew_
           (first | rw [← Ny145.out] at ho33 | (simp only [Int.reduceToNat] at ho33; rw [← Ny145.out] at ho33))
           have n0_ := Aside0.mk (Kd.R_elder' (by xkR_; exact HO_5.out) (Kd.R_base ho33) hb)
           have n1_ := Aside0.mk (Kd.R_lower (Kd.R_new' ho33 (Kd.R_lt (by xkR_; exact HO_5.out))) (below_size (by repeat (first | (with_reducible first | exact HB.out | apply below_alloc | apply pw_below_drewN | apply below_drew1 | refine below_set ?_ GE127.out | refine below_set ?_ GE133.out | refine below_set ?_ GE141.out) | exact HB.out))))
           have n2_ := Aside0.mk (blk_below (g := gb127) (o := .cells #[.int .i64 a0_0, .slice (some ad140) l0_1.length c0_1, .slice A0_2 l0_2.length c0_2, .slice A0_3 l0_3.length c0_3] 26 (0, 0)) (by xkb_; exact BK127.out) hb)
           have n3_ := Aside0.mk (blk_below (g := gb133) (o := .cells #[.int .u8 t129, .int .u8 t130, .int .u8 t131, .int .u8 t132] 61 (0, 0)) (by xkb_; exact BK133.out) hb)
           have n4_ := Aside0.mk (blk_below (g := gb141) (o := .cells #[.int .i64 ((rd_T52 l0_1 x33_1).f0), .int .i64 ((rd_T52 l0_1 x33_1).f1)] 52 (0, 0)) (by xkb_; exact BK141.out) hb)
           have n5_ := Aside0.mk (below_step (by repeat (first | (with_reducible first | exact HB.out | apply below_alloc | apply pw_below_drewN | apply below_drew1 | refine below_set ?_ GE127.out | refine below_set ?_ GE133.out | refine below_set ?_ GE141.out) | exact HB.out)) hb)
           clear HO_5
           clear BK127
           clear BK133
           clear BK141
           clear HB
           have HO_5 := n0_
           have HO147 := n1_
           have BK127 := n2_
           have BK133 := n3_
           have BK141 := n4_
           have HB := n5_
           clear n0_ n1_ n2_ n3_ n4_ n5_
           clear hb ho33
           refine hK.out _ _ ⟨(blk_cell BK141.out 0).trans rfl, (blk_cell BK141.out 1).trans rfl⟩ (fun hHeld => ?_)
           clear hK K
           refine norm_ (a' := ?_) ?_ ?_
           rotate_left
           ·show Act.put _ (some 44) _ = _
            xsp_ i64_w i32_w
            rfl
           refine one_ (i := 3) (N := some 40) #[true, true, true, true, true, true, true, true, false, false] rfl rfl (one_of HT_.out (by kernel_rfl)) (by decide) (fun K hK => ?_)
           refine goes_ Try.func27 (by kernel_rfl) rfl #[.slice Ao29 x5_1.length co29, .int .i64 ((rd_T52 l0_1 x33_1).f0), .int .i64 3] (by rfl) rfl rfl (by xlm_) ?_
           with_reducible refine (pack_Put.calls _ _ x5_1 ((rd_T52 l0_1 x33_1).f0) 3 t142 _ ?side1 ?side2 A23.out).mono ?_
           (case side1 => repeat (first | exact (Kd.R_reads' HO_5.out).2.2 | xkC_))
           (case side2 => exact (Kd.R_reads' HO_5.out).2.1)
           rintro e w34 ⟨v143, rfl, ho0, hb⟩
           refine ⟨_, rfl, ?_⟩
           have n0_ := Aside0.mk (Kd.R_elder' (by xkR_; exact HO_5.out) (Kd.R_base ho0) hb)
           have n1_ := Aside0.mk (Kd.R_elder' (by xkR_; exact HO147.out) (Kd.R_base ho0) hb)
           have n2_ := Aside0.mk (Kd.R_lower (Kd.R_new' (Kd.R_new' ho0 (Kd.R_lt (by xkR_; exact HO_5.out))) (Kd.R_lt (by xkR_; exact HO147.out))) (below_size (by repeat (first | (with_reducible first | exact HB.out | apply below_alloc | apply pw_below_drewN | apply below_drew1 | refine below_set ?_ GE127.out | refine below_set ?_ GE133.out | refine below_set ?_ GE141.out) | exact HB.out))))
           have n3_ := Aside0.mk (blk_below (g := gb127) (o := .cells #[.int .i64 a0_0, .slice (some ad140) l0_1.length c0_1, .slice A0_2 l0_2.length c0_2, .slice A0_3 l0_3.length c0_3] 26 (0, 0)) (by xkb_; exact BK127.out) hb)
           have n4_ := Aside0.mk (blk_below (g := gb133) (o := .cells #[.int .u8 t129, .int .u8 t130, .int .u8 t131, .int .u8 t132] 61 (0, 0)) (by xkb_; exact BK133.out) hb)
           have n5_ := Aside0.mk (blk_below (g := gb141) (o := .cells #[.int .i64 ((rd_T52 l0_1 x33_1).f0), .int .i64 ((rd_T52 l0_1 x33_1).f1)] 52 (0, 0)) (by xkb_; exact BK141.out) hb)
           have n6_ := Aside0.mk (below_step (by repeat (first | (with_reducible first | exact HB.out | apply below_alloc | apply pw_below_drewN | apply below_drew1 | refine below_set ?_ GE127.out | refine below_set ?_ GE133.out | refine below_set ?_ GE141.out) | exact HB.out)) hb)
           clear HO_5
           clear HO147
           clear BK127
           clear BK133
           clear BK141
           clear HB
           have HO_5 := n0_
           have HO147 := n1_
           have HO144 := n2_
           have BK127 := n3_
           have BK133 := n4_
           have BK141 := n5_
           have HB := n6_
           clear n0_ n1_ n2_ n3_ n4_ n5_ n6_
           (try clear hb)
           (try clear hb2)
           (try clear hk)
           (try clear hi)
           (try clear ho0)
           refine hK.out _ _ ⟨(blk_cell BK141.out 0).trans rfl, (blk_cell BK141.out 1).trans rfl⟩ (fun hHeld => ?_)
           clear hK K
           refine norm_ (a' := ?_) ?_ ?_
           rotate_left
           ·show Act.put _ (some 40) _ = _
            xsp_ i64_w i32_w
            rfl
           exact norm_ (by simp only [putAll, Act.put, List.setIfInBounds_toArray, List.set_cons_zero, List.set_cons_succ]) (hCont (v143, v146) _ ⟨hHeld, (by xkR_; exact Kd.R_mono HO144.out (fun _ hk => ⟨hk.2, hk.1.2⟩)), (by xkR_; exact Kd.R_mono HO147.out (fun _ hk => ⟨hk.2, hk.1.2⟩)), (by xkR_; exact Kd.R_mono HO_5.out (fun _ hk => ⟨hk.2, hk.1.2⟩)), (by xkb_; exact BK127.out), (by xkb_; exact BK133.out), (by xkb_; exact BK141.out), (by repeat (first | (with_reducible first | exact HB.out | apply below_alloc | apply pw_below_drewN | apply below_drew1 | refine below_set ?_ GE127.out | refine below_set ?_ GE133.out | refine below_set ?_ GE141.out) | exact HB.out))⟩)
         rintro ⟨v143, v146⟩ w35 ⟨hS_, h0_, h1_, h2_, h3_, h4_, h5_, h6_⟩
         have n0_ : Aside0 (Kd.R (Kd.int .u8) 5 w35 w.heap.size (fun k_ => some k_ ≠ (v146 : Value).ownBlock ∧ some k_ ≠ (.slice Ao29 x5_1.length co29 : Value).ownBlock) v143 t142) := ⟨h0_⟩
         have n1_ : Aside0 (Kd.R (Kd.int .u8) 5 w35 w.heap.size (fun k_ => some k_ ≠ (v143 : Value).ownBlock ∧ some k_ ≠ (.slice Ao29 x5_1.length co29 : Value).ownBlock) v146 y145) := ⟨h1_⟩
         have n2_ : Aside0 (Kd.R (Kd.int .u8) 5 w35 w.heap.size (fun k_ => some k_ ≠ (v143 : Value).ownBlock ∧ some k_ ≠ (v146 : Value).ownBlock) (.slice Ao29 x5_1.length co29) x5_1) := ⟨h2_⟩
         have n3_ : Aside0 (w35.heap[gb127]? = some (.cells #[.int .i64 a0_0, .slice (some ad140) l0_1.length c0_1, .slice A0_2 l0_2.length c0_2, .slice A0_3 l0_3.length c0_3] 26 (0, 0))) := ⟨h3_⟩
         have n4_ : Aside0 (w35.heap[gb133]? = some (.cells #[.int .u8 t129, .int .u8 t130, .int .u8 t131, .int .u8 t132] 61 (0, 0))) := ⟨h4_⟩
         have n5_ : Aside0 (w35.heap[gb141]? = some (.cells #[.int .i64 ((rd_T52 l0_1 x33_1).f0), .int .i64 ((rd_T52 l0_1 x33_1).f1)] 52 (0, 0))) := ⟨h5_⟩
         have n6_ : Aside0 (Below w.heap.size w w35) := ⟨h6_⟩
         clear HO_5
         clear BK127
         clear BK133
         clear BK141
         clear HB
         clear h0_ h1_ h2_ h3_ h4_ h5_ h6_
         have HO144 := n0_
         have HO147 := n1_
         have HO_5 := n2_
         have BK127 := n3_
         have BK133 := n4_
         have BK141 := n5_
         have HB := n6_
         clear n0_ n1_ n2_ n3_ n4_ n5_ n6_
         have hHeld : w35.cell? ⟨gb141, 0, none⟩ = some (.int .i64 ((rd_T52 l0_1 x33_1).f0)) ∧ w35.cell? ⟨gb141, 1, none⟩ = some (.int .i64 ((rd_T52 l0_1 x33_1).f1)) := hS_
         obtain ⟨Ao37, co37, eo37⟩ := Kd.R_slice HO147.out
         (first | subst eo37 | (injection eo37 with f1_ f2_ f3_; have f4_ := f1_.symm; have f5_ := f3_.symm; clear f1_ f2_ f3_; subst f4_; subst f5_))
         refine norm_ (a' := ?_) ?_ ?_
         rotate_left
         ·simp only [putAll, Act.put, List.setIfInBounds_toArray, List.set_cons_zero, List.set_cons_succ]
          rfl
         refine one_ (i := 8) (N := some 45) #[true, true, true, true, true, true, true, true, true, false] rfl rfl (one_of HT_.out (by kernel_rfl)) (by decide) (fun K hK => ?_)
         refine Kd.R_append_rows_step (Kd.int .u8) (w0 := w) w.heap.size (by rfl) (.tmp 40) (.tmp 44) 27 5 (.int .u8 0) 1 rfl Try.underlying27 info5 rfl (by decide) (by omega) v143 t142 y145 _ _ _ (fun k_ => some k_ ≠ (.slice Ao29 x5_1.length co29 : Value).ownBlock ∧ some k_ ≠ (.slice Ao37 y145.length co37 : Value).ownBlock) (fun _ => False) rfl rfl ?aO ?aR (fun _ _ h => h) (fun _ h => h.elim) ?aF ?aB ?aS ?aL ?_
         (case aR => repeat (first | exact (Kd.R_reads' HO147.out).2.2 | xkC_))
         (case aB => exact (by repeat (first | (with_reducible first | exact HB.out | apply below_alloc | apply pw_below_drewN | apply below_drew1 | refine below_set ?_ GE127.out | refine below_set ?_ GE133.out | refine below_set ?_ GE141.out) | exact HB.out)))
         (case aF => exact (fun k_ hk => ⟨Kd.fresh' (Kd.R_lt (by xkR_; exact HO_5.out)) k_ hk, Kd.fresh' (Kd.R_lt (by xkR_; exact HO147.out)) k_ hk⟩))
         (case aO => exact (by xkR_; exact Kd.R_mono HO144.out (fun _ hk => ⟨hk.2, hk.1⟩)))
         (case aS => exact (below_size (by repeat (first | (with_reducible first | exact HB.out | apply below_alloc | apply pw_below_drewN | apply below_drew1 | refine below_set ?_ GE127.out | refine below_set ?_ GE133.out | refine below_set ?_ GE141.out) | exact HB.out))))
         (case aL => have := LMc24.out; omega)
         intro v149 w36 ho hb hg hat
         rw [← Ny148.out] at ho
         have n0_ := Aside0.mk (Kd.R_after (ok := (fun k_ => some k_ ≠ (.slice Ao37 y145.length co37 : Value).ownBlock)) (by xkR_; exact Kd.R_mono HO_5.out (fun _ hk => ⟨hk.2, hk.1⟩)) hg hat)
         have n1_ := Aside0.mk (blk_grown (g := gb127) (o := .cells #[.int .i64 a0_0, .slice (some ad140) l0_1.length c0_1, .slice A0_2 l0_2.length c0_2, .slice A0_3 l0_3.length c0_3] 26 (0, 0)) (by xkb_; exact BK127.out) hg (Kd.R_ne HO144.out BK127.out (by decide)))
         have n2_ := Aside0.mk (blk_grown (g := gb133) (o := .cells #[.int .u8 t129, .int .u8 t130, .int .u8 t131, .int .u8 t132] 61 (0, 0)) (by xkb_; exact BK133.out) hg (Kd.R_ne HO144.out BK133.out (by decide)))
         have n3_ := Aside0.mk (blk_grown (g := gb141) (o := .cells #[.int .i64 ((rd_T52 l0_1 x33_1).f0), .int .i64 ((rd_T52 l0_1 x33_1).f1)] 52 (0, 0)) (by xkb_; exact BK141.out) hg (Kd.R_ne HO144.out BK141.out (by decide)))
         have n4_ := Aside0.mk (Kd.R_after (ok := (fun k_ => some k_ ≠ (.slice Ao29 x5_1.length co29 : Value).ownBlock)) (by xkR_; exact Kd.R_mono HO147.out (fun _ hk => ⟨hk.2, hk.1⟩)) hg hat)
         have n5_ := Aside0.mk (hb)
         have n6_ := Aside0.mk (ho)
         clear HO_5
         clear BK127
         clear BK133
         clear BK141
         clear HO147
         clear HB
         clear HO144
         have HO_5 := n0_
         have BK127 := n1_
         have BK133 := n2_
         have BK141 := n3_
         have HO147 := n4_
         have HB := n5_
         have HO150 := n6_
         clear n0_ n1_ n2_ n3_ n4_ n5_ n6_
         clear ho hb hg hat
         refine hK.out _ _ ⟨(blk_cell BK141.out 0).trans rfl, (blk_cell BK141.out 1).trans rfl⟩ (fun hHeld => ?_)
         clear hK K
         refine norm_ (a' := ?_) ?_ ?_
         rotate_left
         ·show Act.put _ (some 45) _ = _
          xsp_ i64_w i32_w
          rfl
         refine pure_ (i := 9) (N := some 5) (v := ?_) (a' := ?_) #[true, true, true, true, true, true, true, true, true, true] rfl rfl (any_of HT_.out (by kernel_rfl)) (fun _ _ _ h => h) (Or.inl ⟨by rfl, ?_⟩) ?_ ?_
         rotate_left
         ·intro w'
          go_simp
          with_reducible rfl
         rotate_left
         ·xsp_ i64_w i32_w
          rfl
         refine done_ (done_of HT_.out (by kernel_rfl)) ?_
         try go_wp2
         go_roundg k1
         case measure => have := HK1.out; omega
         case rel => exact ⟨(y148), (wrap64 (x33_1 + 1)), (by xrs_), H', ⟨by have := HK1.out; omega⟩, ⟨by xkR_; exact Kd.R_mono HO150.out (fun _ hk => trivial)⟩, ⟨by xkb_; exact BK127.out⟩, ⟨by xkb_; exact BK133.out⟩, ⟨by repeat (first | (with_reducible first | exact HB.out | apply below_alloc | apply pw_below_drewN | apply below_drew1 | refine below_set ?_ GE127.out | refine below_set ?_ GE133.out | refine below_set ?_ GE141.out) | exact HB.out)⟩⟩
        ·rw [if_neg c24] at H
         exact absurd H (by simp)
       ·rw [if_neg c22] at H
        exact absurd H (by simp)
      ·rw [if_neg c21] at H
       exact absurd H (by simp)
     ·rw [if_neg c20] at H
      have c20b0 : decide (x33_1 < (l0_1.length : Int)) = false := decide_eq_false c20
      clear c20
      have H' := Aside0.mk H
      clear H
      have hnb38 := NB127_133.out
      have hnc38 := NB133_127.out
      have hcz39_0 : wr.cell? ⟨gb127, 0, none⟩ = some (.int .i64 a0_0) := (blk_cell BK127.out 0).trans rfl
      have hcz39_1 : wr.cell? ⟨gb127, 1, none⟩ = some (.slice A0_1 l0_1.length c0_1) := (blk_cell BK127.out 1).trans rfl
      have hcz39_2 : wr.cell? ⟨gb127, 2, none⟩ = some (.slice A0_2 l0_2.length c0_2) := (blk_cell BK127.out 2).trans rfl
      have hcz39_3 : wr.cell? ⟨gb127, 3, none⟩ = some (.slice A0_3 l0_3.length c0_3) := (blk_cell BK127.out 3).trans rfl
      have hfz39_0 := blk_frozen BK127.out 0
      have hfz39_1 := blk_frozen BK127.out 1
      have hfz39_2 := blk_frozen BK127.out 2
      have hfz39_3 := blk_frozen BK127.out 3
      go_wp2
      go_loopg [5, 50] k1 (fun kq v5 v50 w' => ∃ (x5_2 : List Int) (x50_2 : Int), v50 = .int .i64 x50_2 ∧ Aside0 (table_Encode.l1 kq x5_2 l0_2 (l0_2.length : Int) x50_2 a0_0 l0_1 l0_2 l0_3 = some (r1, r2)) ∧ Aside0 (kq ≤ k1) ∧ Aside0 (Kd.R (Kd.int .u8) 5 w' w.heap.size (fun _ => True) v5 x5_2) ∧ Aside0 (w'.heap[gb127]? = some (.cells #[.int .i64 a0_0, (.slice A0_1 l0_1.length c0_1), (.slice A0_2 l0_2.length c0_2), (.slice A0_3 l0_3.length c0_3)] 26 (0, 0))) ∧ Aside0 (w'.heap[gb133]? = some (.cells #[.int .u8 t129, .int .u8 t130, .int .u8 t131, .int .u8 t132] 61 (0, 0))) ∧ Aside0 (Below w.heap.size w w'))
      case atStart => exact ⟨(x5_1), (0), (by xrs_), H', ⟨Nat.le_refl _⟩, ⟨by xkR_; exact HO_5.out⟩, ⟨by xkb_; exact BK127.out⟩, ⟨by xkb_; exact BK133.out⟩, ⟨by repeat (first | (with_reducible first | exact HB.out | apply below_alloc | apply pw_below_drewN | apply below_drew1 | refine below_set ?_ GE127.out | refine below_set ?_ GE133.out) | exact HB.out)⟩⟩
      case round =>
       clear H'
       xcl_ c1 p1 q1 hx1 c2 p2 c3 c5 p6 c11 c12 p14 q14 hx14 c20 c20b0 c21 c21b0 c22 c22b0 c24 c26 c27 c38 hcz12_0 hcz12_1 hcz12_2 hcz12_3 hcz19_0 hcz19_1 hcz19_2 hcz19_3 hcz28_0 hcz28_1 hcz39_0 hcz39_1 hcz39_2 hcz39_3 hcz7_0 hcz7_1 hcz7_2 hcz7_3 hfz12_0 hfz12_1 hfz12_2 hfz12_3 hfz19_0 hfz19_1 hfz19_2 hfz19_3 hfz28_0 hfz28_1 hfz39_0 hfz39_1 hfz39_2 hfz39_3 hfz7_0 hfz7_1 hfz7_2 hfz7_3 hx140_0 hx140_1 p140 p2 q140
       obtain ⟨x5_2, x50_2, rfl, HA, HK2, HO_5, BK127, BK133, HB⟩ := hrel
       cases gk with
       | zero => exact absurd HA.out (by simp [table_Encode.l1])
       | succ k2 =>
        have H := HA.out
        clear HA
        simp only [table_Encode.l1] at H
        by_cases c40 : x50_2 < (l0_2.length : Int)
        ·rw [if_pos c40] at H
         have c40b0 : decide (x50_2 < (l0_2.length : Int)) = true := decide_eq_true c40
         clear c40
         by_cases c41 : 0 ≤ x50_2
         ·rw [if_pos c41] at H
          have c41b0 : decide (0 ≤ x50_2) = true := decide_eq_true c41
          clear c41
          by_cases c42 : x50_2 < (l0_2.length : Int)
          ·rw [if_pos c42] at H
           have c42b0 : decide (x50_2 < (l0_2.length : Int)) = true := decide_eq_true c42
           clear c42
           have H' := Aside0.mk H
           clear H
           have p161 : 0 ≤ (x50_2 : Int) := of_decide_eq_true (by xas_)
           have q161 : x50_2 < (l0_2.length : Int) := of_decide_eq_true (by xas_)
           obtain ⟨ad161, A161_0, c161_0, e161, hx161_0, hl161_0, hi161_0⟩ := at_L1 HR0_2.out x50_2 p161 q161
           cases e161
           replace hx161_0 := (HB.out.cell (World.block_lt_of_cell? w _ hx161_0)).trans hx161_0
           have HR161_0 := Aside0.mk hi161_0
           have HC161_0 := Aside0.mk hl161_0
           clear hi161_0 hl161_0
           replace p161 := eq_true p161
           replace q161 := eq_true q161
           go_wp2
           go_loopg [5, 56] k2 (fun kq v5 v56 w' => ∃ (x5_3 : List Int) (x56_3 : Int), v56 = .int .i64 x56_3 ∧ Aside0 (table_Encode.l2 kq x5_3 l0_2 (l0_2.length : Int) x50_2 (rd_L1 l0_2 x50_2) ((rd_L1 l0_2 x50_2).length : Int) x56_3 a0_0 l0_1 l0_2 l0_3 = some (r1, r2)) ∧ Aside0 (kq ≤ k2) ∧ Aside0 (Kd.R (Kd.int .u8) 5 w' w.heap.size (fun _ => True) v5 x5_3) ∧ Aside0 (w'.heap[gb127]? = some (.cells #[.int .i64 a0_0, (.slice A0_1 l0_1.length c0_1), (.slice (some ad161) l0_2.length c0_2), (.slice A0_3 l0_3.length c0_3)] 26 (0, 0))) ∧ Aside0 (w'.heap[gb133]? = some (.cells #[.int .u8 t129, .int .u8 t130, .int .u8 t131, .int .u8 t132] 61 (0, 0))) ∧ Aside0 (Below w.heap.size w w'))
           case atStart => exact ⟨(x5_2), (0), (by xrs_), H', ⟨Nat.le_refl _⟩, ⟨by xkR_; exact HO_5.out⟩, ⟨by xkb_; exact BK127.out⟩, ⟨by xkb_; exact BK133.out⟩, ⟨by repeat (first | (with_reducible first | exact HB.out | apply below_alloc | apply pw_below_drewN | apply below_drew1 | refine below_set ?_ GE127.out | refine below_set ?_ GE133.out) | exact HB.out)⟩⟩
           case round =>
            clear H'
            xcl_ c1 p1 q1 hx1 c2 p2 c3 c4 c5 p6 c11 c12 p14 q14 hx14 c16 p16 q16 hx16 c20 c20b0 c21 c21b0 c22 c22b0 c24 c26 c27 c38 c40 c40b0 c41 c41b0 c42 c42b0 hcz12_0 hcz12_1 hcz12_2 hcz12_3 hcz19_0 hcz19_1 hcz19_2 hcz19_3 hcz28_0 hcz28_1 hcz39_0 hcz39_1 hcz39_2 hcz39_3 hcz7_0 hcz7_1 hcz7_2 hcz7_3 hfz12_0 hfz12_1 hfz12_2 hfz12_3 hfz19_0 hfz19_1 hfz19_2 hfz19_3 hfz28_0 hfz28_1 hfz39_0 hfz39_1 hfz39_2 hfz39_3 hfz7_0 hfz7_1 hfz7_2 hfz7_3 hx140_0 hx140_1 hx161_0 p1 p14 p140 p161 p2 p6 q1 q14 q140 q161
            obtain ⟨x5_3, x56_3, rfl, HA, HK3, HO_5, BK127, BK133, HB⟩ := hrel
            cases gk with
            | zero => exact absurd HA.out (by simp [table_Encode.l2])
            | succ k3 =>
             have H := HA.out
             clear HA
             simp only [table_Encode.l2] at H
             by_cases c43 : x56_3 < ((rd_L1 l0_2 x50_2).length : Int)
             ·rw [if_pos c43] at H
              have c43b0 : decide (x56_3 < ((rd_L1 l0_2 x50_2).length : Int)) = true := decide_eq_true c43
              clear c43
              by_cases c44 : 0 ≤ x56_3
              ·rw [if_pos c44] at H
               have c44b0 : decide (0 ≤ x56_3) = true := decide_eq_true c44
               clear c44
               by_cases c45 : x56_3 < ((rd_L1 l0_2 x50_2).length : Int)
               ·rw [if_pos c45] at H
                have c45b0 : decide (x56_3 < ((rd_L1 l0_2 x50_2).length : Int)) = true := decide_eq_true c45
                clear c45
                obtain ⟨y163, hy163⟩ : ∃ y_ : List Int, y_ = (([(rd (rd_L1 l0_2 x50_2) x56_3) % 256] : List Int)) := ⟨_, rfl⟩
                replace H : (if x5_3.length + y163.length < 140737488355328 then (table_Encode.l2 k3 (x5_3 ++ y163) l0_2 (l0_2.length : Int) x50_2 (rd_L1 l0_2 x50_2) ((rd_L1 l0_2 x50_2).length : Int) (wrap64 (x56_3 + 1)) a0_0 l0_1 l0_2 l0_3) else (none)) = some (r1, r2) := by first | (rw [hy163]; with_reducible exact H) | (have H2_ := (Option.bind_some _ _).symm.trans H; rw [hy163]; with_reducible exact H2_) | (have H2_ := (Option.bind_some _ _).symm.trans H; with_reducible exact H2_) | with_reducible exact H | (rw [hy163]; exact H) | exact H
                have Ny163 := Aside0.mk hy163
                clear hy163
                by_cases c46 : x5_3.length + y163.length < 140737488355328
                ·rw [if_pos c46] at H
                 have LMc46 := Aside0.mk c46
                 clear c46
                 obtain ⟨y166, hy166⟩ : ∃ y_ : List Int, y_ = (x5_3 ++ y163) := ⟨_, rfl⟩
                 replace H : (table_Encode.l2 k3 y166 l0_2 (l0_2.length : Int) x50_2 (rd_L1 l0_2 x50_2) ((rd_L1 l0_2 x50_2).length : Int) (wrap64 (x56_3 + 1)) a0_0 l0_1 l0_2 l0_3) = some (r1, r2) := by first | (rw [hy166]; with_reducible exact H) | (have H2_ := (Option.bind_some _ _).symm.trans H; rw [hy166]; with_reducible exact H2_) | (have H2_ := (Option.bind_some _ _).symm.trans H; with_reducible exact H2_) | with_reducible exact H | (rw [hy166]; exact H) | exact H
                 have Ny166 := Aside0.mk hy166
                 clear hy166
                 have H' := Aside0.mk H
                 clear H
                 have p162 : 0 ≤ (x56_3 : Int) := of_decide_eq_true (by xas_)
                 have q162 : x56_3 < ((rd_L1 l0_2 x50_2).length : Int) := of_decide_eq_true (by xas_)
                 obtain ⟨ad162, e162, hx162_0⟩ := Kd.at_int HR161_0.out x56_3 p162 q162
                 cases e162
                 replace hx162_0 := (HB.out.cell (World.block_lt_of_cell? w _ hx162_0)).trans hx162_0
                 replace p162 := eq_true p162
                 replace q162 := eq_true q162
                 go_wp2_with (first | ((with_reducible refine gate_dst (N := 63) rfl ?_); refine Kd.R_lit (Kd.int .u8) _ 5 ?hg (N := 63) ?hd (xs := ([(rd (rd_L1 l0_2 x50_2) x56_3) % 256] : List Int)) (inner := [.int .u8 ((rd (rd_L1 l0_2 x50_2) x56_3) % 256)]) (ok := fun _ => True) (okp := fun _ => True) ?hr ?hp (fun _ hk => hk) trivial (Below.refl _ _) (Nat.le_refl _) (by simp) ?_; (case hd => rfl); (case hg => rfl); (case hr => xgs_); (case hp => exact (Reps.one (show Kd.M (Kd.int .u8) _ _ _ ((rd (rd_L1 l0_2 x50_2) x56_3) % 256) [.int .u8 ((rd (rd_L1 l0_2 x50_2) x56_3) % 256)] from rfl) (Reps.none _ _))); intro v164 w47 ho48 hb hg_ hnew_; clear hg_ hnew_; (first | rw [← Ny163.out] at ho48 | (simp only [Int.reduceToNat] at ho48; rw [← Ny163.out] at ho48)); have n0_ := Aside0.mk (Kd.R_elder' (by xkR_; exact HO_5.out) (Kd.R_base ho48) hb); have n1_ := Aside0.mk (Kd.R_lower (Kd.R_new' ho48 (Kd.R_lt (by xkR_; exact HO_5.out))) (below_size (by repeat (first | (with_reducible first | exact HB.out | apply below_alloc | apply pw_below_drewN | apply below_drew1 | refine below_set ?_ GE127.out | refine below_set ?_ GE133.out) | exact HB.out)))); have n2_ := Aside0.mk (blk_below (g := gb127) (o := .cells #[.int .i64 a0_0, .slice A0_1 l0_1.length c0_1, .slice (some ad161) l0_2.length c0_2, .slice A0_3 l0_3.length c0_3] 26 (0, 0)) (by xkb_; exact BK127.out) hb); have n3_ := Aside0.mk (blk_below (g := gb133) (o := .cells #[.int .u8 t129, .int .u8 t130, .int .u8 t131, .int .u8 t132] 61 (0, 0)) (by xkb_; exact BK133.out) hb); have n4_ := Aside0.mk (below_step (by repeat (first | (with_reducible first | exact HB.out | apply below_alloc | apply pw_below_drewN | apply below_drew1 | refine below_set ?_ GE127.out | refine below_set ?_ GE133.out) | exact HB.out)) hb); clear HO_5; clear BK127; clear BK133; clear HB; have HO_5 := n0_; have HO165 := n1_; have BK127 := n2_; have BK133 := n3_; have HB := n4_; clear n0_ n1_ n2_ n3_ n4_; clear hb ho48; obtain ⟨Ao50, co50, eo50⟩ := Kd.R_slice HO165.out; subst eo50) | ((with_reducible refine gate_builtin (b := .append) (xs := #[.tmp 60, .tmp 63]) rfl ?_); at_builtin; refine Kd.R_append_rows (Kd.int .u8) (w0 := w) w.heap.size rfl (.tmp 60) (.tmp 63) 27 5 (.int .u8 0) 1 rfl Try.underlying27 info5 rfl (by decide) (by omega) u5 x5_3 y163 _ _ _ (fun k_ => some k_ ≠ (.slice Ao50 y163.length co50 : Value).ownBlock) (fun _ => False) rfl rfl ?aO ?aR (fun _ _ h => h) (fun _ h => h.elim) ?aF ?aB ?aS ?aL ?_; (case aR => repeat (first | exact (Kd.R_reads' HO165.out).2.2 | xkC_)); (case aB => exact (by repeat (first | (with_reducible first | exact HB.out | apply below_alloc | apply pw_below_drewN | apply below_drew1 | refine below_set ?_ GE127.out | refine below_set ?_ GE133.out) | exact HB.out))); (case aF => exact (fun k_ hk => Kd.fresh' (Kd.R_lt (by xkR_; exact HO165.out)) k_ hk)); (case aO => exact (by xkR_; exact Kd.R_mono HO_5.out (fun _ hk => hk.2))); (case aS => exact (below_size (by repeat (first | (with_reducible first | exact HB.out | apply below_alloc | apply pw_below_drewN | apply below_drew1 | refine below_set ?_ GE127.out | refine below_set ?_ GE133.out) | exact HB.out)))); (case aL => have := LMc46.out; omega); intro v167 w49 ho hb hg hat; rw [← Ny166.out] at ho; have n0_ := Aside0.mk (blk_grown (g := gb127) (o := .cells #[.int .i64 a0_0, .slice A0_1 l0_1.length c0_1, .slice (some ad161) l0_2.length c0_2, .slice A0_3 l0_3.length c0_3] 26 (0, 0)) (by xkb_; exact BK127.out) hg (Kd.R_ne HO_5.out BK127.out (by decide))); have n1_ := Aside0.mk (blk_grown (g := gb133) (o := .cells #[.int .u8 t129, .int .u8 t130, .int .u8 t131, .int .u8 t132] 61 (0, 0)) (by xkb_; exact BK133.out) hg (Kd.R_ne HO_5.out BK133.out (by decide))); have n2_ := Aside0.mk (Kd.R_after (ok := (fun _ => True)) (by xkR_; exact HO165.out) hg hat); have n3_ := Aside0.mk (hb); have n4_ := Aside0.mk (ho); clear BK127; clear BK133; clear HO165; clear HB; clear HO_5; have BK127 := n0_; have BK133 := n1_; have HO165 := n2_; have HB := n3_; have HO168 := n4_; clear n0_ n1_ n2_ n3_ n4_; clear ho hb hg hat))
                 go_roundg k3
                 case measure => have := HK1.out; have := HK2.out; have := HK3.out; omega
                 case rel => exact ⟨(y166), (wrap64 (x56_3 + 1)), (by xrs_), H', ⟨by have := HK1.out; have := HK2.out; have := HK3.out; omega⟩, ⟨by xkR_; exact Kd.R_mono HO168.out (fun _ hk => trivial)⟩, ⟨by xkb_; exact BK127.out⟩, ⟨by xkb_; exact BK133.out⟩, ⟨by repeat (first | (with_reducible first | exact HB.out | apply below_alloc | apply pw_below_drewN | apply below_drew1 | refine below_set ?_ GE127.out | refine below_set ?_ GE133.out) | exact HB.out)⟩⟩
                ·rw [if_neg c46] at H
                 exact absurd H (by simp)
               ·rw [if_neg c45] at H
                exact absurd H (by simp)
              ·rw [if_neg c44] at H
               exact absurd H (by simp)
             ·rw [if_neg c43] at H
              have c43b0 : decide (x56_3 < ((rd_L1 l0_2 x50_2).length : Int)) = false := decide_eq_false c43
              clear c43
              have H' := Aside0.mk H
              clear H
              go_wp2
              go_roundg k3
              case measure => have := HK1.out; have := HK2.out; have := HK3.out; omega
              case rel => exact ⟨(x5_3), (wrap64 (x50_2 + 1)), (by xrs_), H', ⟨by have := HK1.out; have := HK2.out; have := HK3.out; omega⟩, ⟨by xkR_; exact HO_5.out⟩, ⟨by xkb_; exact BK127.out⟩, ⟨by xkb_; exact BK133.out⟩, ⟨by repeat (first | (with_reducible first | exact HB.out | apply below_alloc | apply pw_below_drewN | apply below_drew1 | refine below_set ?_ GE127.out | refine below_set ?_ GE133.out) | exact HB.out)⟩⟩
          ·rw [if_neg c42] at H
           exact absurd H (by simp)
         ·rw [if_neg c41] at H
          exact absurd H (by simp)
        ·rw [if_neg c40] at H
         have c40b0 : decide (x50_2 < (l0_2.length : Int)) = false := decide_eq_false c40
         clear c40
         replace H := Option.bind_eq_some_iff.mp H
         obtain ⟨t151, A510, H⟩ := H
         replace H : (if x5_2.length + t151.length < 140737488355328 then ((some (x5_2 ++ t151 : List Int)).bind fun y154 => ((pack_Sum.f k2 y154).bind fun t157 => ((pack_Put.f y154 (wrap64 (t157)) 4).bind fun t158 => (some (t158, true))))) else (none)) = some (r1, r2) := H
         have A51 := Aside0.mk A510
         clear A510
         by_cases c52 : x5_2.length + t151.length < 140737488355328
         ·rw [if_pos c52] at H
          have LMc52 := Aside0.mk c52
          clear c52
          obtain ⟨y154, hy154⟩ : ∃ y_ : List Int, y_ = (x5_2 ++ t151) := ⟨_, rfl⟩
          replace H : ((pack_Sum.f k2 y154).bind fun t157 => ((pack_Put.f y154 (wrap64 (t157)) 4).bind fun t158 => (some (t158, true)))) = some (r1, r2) := by first | (rw [hy154]; with_reducible exact H) | (have H2_ := (Option.bind_some _ _).symm.trans H; rw [hy154]; with_reducible exact H2_) | (have H2_ := (Option.bind_some _ _).symm.trans H; with_reducible exact H2_) | with_reducible exact H | (rw [hy154]; exact H) | exact H
          have Ny154 := Aside0.mk hy154
          clear hy154
          replace H := Option.bind_eq_some_iff.mp H
          obtain ⟨t157, A530, H⟩ := H
          replace H : ((pack_Put.f y154 (wrap64 (t157)) 4).bind fun t158 => (some (t158, true))) = some (r1, r2) := H
          have A53 := Aside0.mk A530
          clear A530
          replace H := Option.bind_eq_some_iff.mp H
          obtain ⟨t158, A540, H⟩ := H
          replace H : (some (t158, true)) = some (r1, r2) := H
          have A54 := Aside0.mk A540
          clear A540
          simp only [Option.some.injEq, Prod.mk.injEq] at H
          obtain ⟨rfl, rfl⟩ := H
          have hnb55 := NB127_133.out
          have hnc55 := NB133_127.out
          have hcz56_0 : wr.cell? ⟨gb127, 0, none⟩ = some (.int .i64 a0_0) := (blk_cell BK127.out 0).trans rfl
          have hcz56_1 : wr.cell? ⟨gb127, 1, none⟩ = some (.slice A0_1 l0_1.length c0_1) := (blk_cell BK127.out 1).trans rfl
          have hcz56_2 : wr.cell? ⟨gb127, 2, none⟩ = some (.slice A0_2 l0_2.length c0_2) := (blk_cell BK127.out 2).trans rfl
          have hcz56_3 : wr.cell? ⟨gb127, 3, none⟩ = some (.slice A0_3 l0_3.length c0_3) := (blk_cell BK127.out 3).trans rfl
          have hfz56_0 := blk_frozen BK127.out 0
          have hfz56_1 := blk_frozen BK127.out 1
          have hfz56_2 := blk_frozen BK127.out 2
          have hfz56_3 := blk_frozen BK127.out 3
          go_wp2_with (first | ((with_reducible refine gate_callee (f := 28) rfl ?_); refine goesL_ (some 70) rfl rfl Try.func28 (by kernel_rfl) rfl #[.slice A0_3 l0_3.length c0_3] rfl (by xlm_) ?_; (with_reducible refine (pack_Bits.calls k2 _ _ l0_3 t151 _ ?side1 ?side2 A51.out).mono ?_); (case side1 => repeat (first | exact (Kd.C_below HR0_3.out HB.out) | xkC_)); (case side2 => exact HC0_3.out); rintro e w57 ⟨v152, rfl, ho0, hb⟩; refine ⟨_, rfl, ?_⟩; have n0_ := Aside0.mk (Kd.R_elder' (by xkR_; exact HO_5.out) (Kd.R_base ho0) hb); have n1_ := Aside0.mk (Kd.R_lower (Kd.R_new' ho0 (Kd.R_lt (by xkR_; exact HO_5.out))) (below_size (by repeat (first | (with_reducible first | exact HB.out | apply below_alloc | apply pw_below_drewN | apply below_drew1 | refine below_set ?_ GE127.out | refine below_set ?_ GE133.out) | exact HB.out)))); have n2_ := Aside0.mk (blk_below (g := gb127) (o := .cells #[.int .i64 a0_0, .slice A0_1 l0_1.length c0_1, .slice A0_2 l0_2.length c0_2, .slice A0_3 l0_3.length c0_3] 26 (0, 0)) (by xkb_; exact BK127.out) hb); have n3_ := Aside0.mk (blk_below (g := gb133) (o := .cells #[.int .u8 t129, .int .u8 t130, .int .u8 t131, .int .u8 t132] 61 (0, 0)) (by xkb_; exact BK133.out) hb); have n4_ := Aside0.mk (below_step (by repeat (first | (with_reducible first | exact HB.out | apply below_alloc | apply pw_below_drewN | apply below_drew1 | refine below_set ?_ GE127.out | refine below_set ?_ GE133.out) | exact HB.out)) hb); clear HO_5; clear BK127; clear BK133; clear HB; have HO_5 := n0_; have HO153 := n1_; have BK127 := n2_; have BK133 := n3_; have HB := n4_; clear n0_ n1_ n2_ n3_ n4_; (try clear hb); (try clear hb2); (try clear hk); (try clear hi); (try clear ho0); obtain ⟨Ao59, co59, eo59⟩ := Kd.R_slice HO153.out; subst eo59) | ((with_reducible refine gate_builtin (b := .append) (xs := #[.tmp 67, .tmp 70]) rfl ?_); at_builtin; refine Kd.R_append_rows (Kd.int .u8) (w0 := w) w.heap.size rfl (.tmp 67) (.tmp 70) 27 5 (.int .u8 0) 1 rfl Try.underlying27 info5 rfl (by decide) (by omega) u5 x5_2 t151 _ _ _ (fun k_ => some k_ ≠ (.slice Ao59 t151.length co59 : Value).ownBlock) (fun _ => False) rfl rfl ?aO ?aR (fun _ _ h => h) (fun _ h => h.elim) ?aF ?aB ?aS ?aL ?_; (case aR => repeat (first | exact (Kd.R_reads' HO153.out).2.2 | xkC_)); (case aB => exact (by repeat (first | (with_reducible first | exact HB.out | apply below_alloc | apply pw_below_drewN | apply below_drew1 | refine below_set ?_ GE127.out | refine below_set ?_ GE133.out) | exact HB.out))); (case aF => exact (fun k_ hk => Kd.fresh' (Kd.R_lt (by xkR_; exact HO153.out)) k_ hk)); (case aO => exact (by xkR_; exact Kd.R_mono HO_5.out (fun _ hk => hk.2))); (case aS => exact (below_size (by repeat (first | (with_reducible first | exact HB.out | apply below_alloc | apply pw_below_drewN | apply below_drew1 | refine below_set ?_ GE127.out | refine below_set ?_ GE133.out) | exact HB.out)))); (case aL => have := LMc52.out; omega); intro v155 w58 ho hb hg hat; rw [← Ny154.out] at ho; have n0_ := Aside0.mk (blk_grown (g := gb127) (o := .cells #[.int .i64 a0_0, .slice A0_1 l0_1.length c0_1, .slice A0_2 l0_2.length c0_2, .slice A0_3 l0_3.length c0_3] 26 (0, 0)) (by xkb_; exact BK127.out) hg (Kd.R_ne HO_5.out BK127.out (by decide))); have n1_ := Aside0.mk (blk_grown (g := gb133) (o := .cells #[.int .u8 t129, .int .u8 t130, .int .u8 t131, .int .u8 t132] 61 (0, 0)) (by xkb_; exact BK133.out) hg (Kd.R_ne HO_5.out BK133.out (by decide))); have n2_ := Aside0.mk (Kd.R_after (ok := (fun _ => True)) (by xkR_; exact HO153.out) hg hat); have n3_ := Aside0.mk (hb); have n4_ := Aside0.mk (ho); clear BK127; clear BK133; clear HO153; clear HB; clear HO_5; have BK127 := n0_; have BK133 := n1_; have HO153 := n2_; have HB := n3_; have HO156 := n4_; clear n0_ n1_ n2_ n3_ n4_; clear ho hb hg hat; obtain ⟨Ao60, co60, eo60⟩ := Kd.R_slice HO156.out; subst eo60) | ((with_reducible refine gate_callee (f := 29) rfl ?_); refine goesL_ (some 74) rfl rfl Try.func29 (by kernel_rfl) rfl #[.slice Ao60 y154.length co60] rfl (by xlm_) ?_; (with_reducible refine (pack_Sum.calls k2 _ _ y154 t157 _ ?side1 ?side2 A53.out).mono ?_); (case side1 => repeat (first | exact (Kd.R_reads' HO156.out).2.2 | xkC_)); (case side2 => exact (Kd.R_reads' HO156.out).2.1); rintro e w' ⟨rfl, ⟨nd, rfl⟩⟩; refine ⟨_, rfl, ?_⟩) | ((with_reducible refine gate_callee (f := 27) rfl ?_); refine goesL_ (some 76) rfl rfl Try.func27 (by kernel_rfl) rfl #[.slice Ao60 y154.length co60, .int .i64 (wrap64 (t157)), .int .i64 4] rfl (by xlm_) ?_; (with_reducible refine (pack_Put.calls _ _ y154 (wrap64 (t157)) 4 t158 _ ?side1 ?side2 A54.out).mono ?_); (case side1 => repeat (first | exact (Kd.R_reads' HO156.out).2.2 | xkC_)); (case side2 => exact (Kd.R_reads' HO156.out).2.1); rintro e w61 ⟨v159, rfl, ho0, hb⟩; refine ⟨_, rfl, ?_⟩; have n0_ := Aside0.mk (Kd.R_elder' (by xkR_; exact HO153.out) (Kd.R_base ho0) hb); have n1_ := Aside0.mk (Kd.R_elder' (by xkR_; exact HO156.out) (Kd.R_base ho0) hb); have n2_ := Aside0.mk (Kd.R_lower (Kd.R_new' (Kd.R_new' ho0 (Kd.R_lt (by xkR_; exact HO153.out))) (Kd.R_lt (by xkR_; exact HO156.out))) (below_size (by repeat (first | (with_reducible first | exact HB.out | apply below_alloc | apply pw_below_drewN | apply below_drew1 | refine below_set ?_ GE127.out | refine below_set ?_ GE133.out) | exact HB.out)))); have n3_ := Aside0.mk (blk_below (g := gb127) (o := .cells #[.int .i64 a0_0, .slice A0_1 l0_1.length c0_1, .slice A0_2 l0_2.length c0_2, .slice A0_3 l0_3.length c0_3] 26 (0, 0)) (by xkb_; exact BK127.out) hb); have n4_ := Aside0.mk (blk_below (g := gb133) (o := .cells #[.int .u8 t129, .int .u8 t130, .int .u8 t131, .int .u8 t132] 61 (0, 0)) (by xkb_; exact BK133.out) hb); have n5_ := Aside0.mk (below_step (by repeat (first | (with_reducible first | exact HB.out | apply below_alloc | apply pw_below_drewN | apply below_drew1 | refine below_set ?_ GE127.out | refine below_set ?_ GE133.out) | exact HB.out)) hb); clear HO153; clear HO156; clear BK127; clear BK133; clear HB; have HO153 := n0_; have HO156 := n1_; have HO160 := n2_; have BK127 := n3_; have BK133 := n4_; have HB := n5_; clear n0_ n1_ n2_ n3_ n4_ n5_; (try clear hb); (try clear hb2); (try clear hk); (try clear hi); (try clear ho0)))
          go_ret2
          exact ⟨_, by first | rfl | (simp [errW_none, errW_some] <;> rfl) | (simp [*, errW_none, errW_some] <;> rfl), by xkR_; exact Kd.R_mono HO160.out (fun _ hk => trivial), by repeat (first | (with_reducible first | exact HB.out | apply below_alloc | apply pw_below_drewN | apply below_drew1 | refine below_set ?_ GE127.out | refine below_set ?_ GE133.out) | exact HB.out)⟩
         ·rw [if_neg c52] at H
          exact absurd H (by simp)
  ·rw [if_neg c5] at H
   exact absurd H (by simp)
 ·replace c3 := Bool.eq_false_iff.mpr c3
  subst c3
  have H1 : (some (([] : List Int), false)) = some (r1, r2) := by rw [if_neg (show ¬ (false = true) by decide)] at H; exact H
  clear H
  have H := H1
  clear H1
  simp only [Option.some.injEq, Prod.mk.injEq] at H
  obtain ⟨rfl, rfl⟩ := H
  go_enter Try.func12, Try.ntmps12
  go_wp2_with (first | ((with_reducible refine gate_dst (N := 1) rfl ?_); refine box_event ?hg (N := 1) ?hd (cs := #[.int .i64 a0_0, .slice A0_1 l0_1.length c0_1, .slice A0_2 l0_2.length c0_2, .slice A0_3 l0_3.length c0_3]) (t := 26) ?hr ?_; (case hd => rfl); (case hg => rfl); (case hr => xgs_); intro gb127 hg w62 hbox hb; have n0_ := Aside0.mk (below_step (by repeat (first | (with_reducible first | exact HB.out | apply below_alloc | apply pw_below_drewN | apply below_drew1) | exact HB.out)) hb); have n1_ := Aside0.mk (hbox); have n2_ := Aside0.mk ((by rw [hg]; exact (below_size (by repeat (first | (with_reducible first | exact HB.out | apply below_alloc | apply pw_below_drewN | apply below_drew1) | exact HB.out))) : w.heap.size ≤ gb127)); have n3_ := Aside0.mk ((by rw [hg]; exact (below_size (by repeat (first | (with_reducible first | exact HB.out | apply below_alloc | apply pw_below_drewN | apply below_drew1) | exact HB.out))) : w.heap.size ≤ gb127)); clear HB; have HB := n0_; have BK127 := n1_; have GW127 := n2_; have GE127 := n3_; clear n0_ n1_ n2_ n3_; clear hb hbox hg; have hcz63_0 : w62.cell? ⟨gb127, 0, none⟩ = some (.int .i64 a0_0) := (blk_cell BK127.out 0).trans rfl; have hcz63_1 : w62.cell? ⟨gb127, 1, none⟩ = some (.slice A0_1 l0_1.length c0_1) := (blk_cell BK127.out 1).trans rfl; have hcz63_2 : w62.cell? ⟨gb127, 2, none⟩ = some (.slice A0_2 l0_2.length c0_2) := (blk_cell BK127.out 2).trans rfl; have hcz63_3 : w62.cell? ⟨gb127, 3, none⟩ = some (.slice A0_3 l0_3.length c0_3) := (blk_cell BK127.out 3).trans rfl; have hfz63_0 := blk_frozen BK127.out 0; have hfz63_1 := blk_frozen BK127.out 1; have hfz63_2 := blk_frozen BK127.out 2; have hfz63_3 := blk_frozen BK127.out 3) | ((with_reducible refine gate_callee (f := 25) rfl ?_); refine goesL_ (some 13) rfl rfl Try.func25 (by kernel_rfl) rfl #[.agg #[.int .i64 a0_0, .slice A0_1 l0_1.length c0_1, .slice A0_2 l0_2.length c0_2, .slice A0_3 l0_3.length c0_3]] rfl (by xlm_) ?_; (with_reducible refine (table_may.calls k a0_0 _ _ l0_1 _ _ l0_2 _ _ l0_3 false _ ?side1 ?side2 ?side3 ?side4 ?side5 ?side6 A2.out).mono ?_); (case side1 => repeat (first | exact (Kd.C_below HR0_1.out HB.out) | xkC_)); (case side2 => exact HC0_1.out); (case side3 => repeat (first | exact (Kd.C_below HR0_2.out HB.out) | xkC_)); (case side4 => exact HC0_2.out); (case side5 => repeat (first | exact (Kd.C_below HR0_3.out HB.out) | xkC_)); (case side6 => exact HC0_3.out); rintro e w64 ⟨rfl, hb⟩; refine ⟨_, rfl, ?_⟩; have n0_ := Aside0.mk (blk_below (g := gb127) (o := .cells #[.int .i64 a0_0, .slice A0_1 l0_1.length c0_1, .slice A0_2 l0_2.length c0_2, .slice A0_3 l0_3.length c0_3] 26 (0, 0)) (by xkb_; exact BK127.out) hb); have n1_ := Aside0.mk (below_step (by repeat (first | (with_reducible first | exact HB.out | apply below_alloc | apply pw_below_drewN | apply below_drew1 | refine below_set ?_ GE127.out) | exact HB.out)) hb); clear BK127; clear HB; have BK127 := n0_; have HB := n1_; clear n0_ n1_; (try clear hb); (try clear hb2); (try clear hk); (try clear hi)))
  go_ret2
  exact ⟨_, by first | rfl | (simp [errW_none, errW_some] <;> rfl) | (simp [*, errW_none, errW_some] <;> rfl), by xni_, by repeat (first | (with_reducible first | exact HB.out | apply below_alloc | apply pw_below_drewN | apply below_drew1 | refine below_set ?_ GE127.out) | exact HB.out)⟩

end Go.Proofs.Ytpcbhghgommijaa.X
