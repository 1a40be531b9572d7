/- Texts of this claim, put together: what no text names is left out (wip/x/prune.py). -/
import Derived.Test.YtpcbhghgommijaaPTableBack9
section
namespace Go.Proofs.Ytpcbhghgommijaa.X
open Go.RowKit Go.Proofs.YtpcbhghgommijaaW.PrintWords Go.Proofs.YtpcbhghgommijaaW.PrintLast Go.Proofs.YtpcbhghgommijaaW.PrintMore
attribute [local go_sem] max2_int min2_int max_two min_two max_three min_three max_four min_four
set_option linter.unusedVariables false
set_option linter.unusedSimpArgs false
open Go.Proofs.Ytpcbhghgommijaa.XMac
mutual
def caesuralaw06_TableBack.j0 : Nat → List Int → Bool → Int → List (S52) → List (List Int) → List Bool → Int → Int → Option (Bool)
 | 0, _, _, _, _, _, _, _, _ => none
 | k + 1, x1, x25, x544000, x544001, x544002, x544003, x545000, x545001 => if x25 = true then ((caesuralaw06_wakes.f k).bind fun t546 => (some t546)) else ((table_Encode.f k x544000 x544001 x544002 x544003).bind fun bt547 => (if bt547.2 = true then (if (bt547.1.length : Int) < 11 then (caesuralaw06_TableBack.j1 k x1 bt547.1 true x544000 x544001 x544002 x544003 x545000 x545001) else ((table_Length.f x544000 (x544002.length : Int) (x544001.length : Int)).bind fun t551 => (caesuralaw06_TableBack.j1 k x1 bt547.1 ((bt547.1.length : Int) != t551) x544000 x544001 x544002 x544003 x545000 x545001))) else (caesuralaw06_TableBack.j4 k x1)))
def caesuralaw06_TableBack.j4 : Nat → List Int → Option (Bool)
 | 0, _ => none
 | k + 1, x1 => (table_Decode.f k x1).bind fun bt585 => (if bt585.2.2.2.2 = 0 then ((table_Encode.f k bt585.1 bt585.2.1 bt585.2.2.1 bt585.2.2.2.1).bind fun bt597 => (if bt597.2 = true then ((caesurakeep_Bytes.f bt597.1 x1).bind fun t601 => (if t601 = true then ((caesuralaw06_wakes.f k).bind fun t602 => (some t602)) else (none))) else (none))) else (if bt585.1 = 0 then (if (bt585.2.2.1.length : Int) = 0 then ((caesuralaw06_wakes.f k).bind fun t603 => (some t603)) else (none)) else (none)))
def caesuralaw06_TableBack.j1 : Nat → List Int → List Int → Bool → Int → List (S52) → List (List Int) → List Bool → Int → Int → Option (Bool)
 | 0, _, _, _, _, _, _, _, _, _ => none
 | k + 1, x1, x7, x49, x544000, x544001, x544002, x544003, x545000, x545001 => if x49 = true then (none) else ((table_Decode.f k x7).bind fun bt552 => (if x544000 ≤ 8 then (if (x544002.length : Int) ≤ 5 then (if (x544001.length : Int) ≥ 1 then (caesuralaw06_TableBack.j2 k x1 x7 bt552.2.2.2.2 (decide ((x544001.length : Int) ≤ 60)) x544000 x544001 x544002 x544003 x545000 x545001 bt552.1 bt552.2.1 bt552.2.2.1 bt552.2.2.2.1) else (caesuralaw06_TableBack.j2 k x1 x7 bt552.2.2.2.2 false x544000 x544001 x544002 x544003 x545000 x545001 bt552.1 bt552.2.1 bt552.2.2.1 bt552.2.2.2.1)) else (caesuralaw06_TableBack.j2 k x1 x7 bt552.2.2.2.2 false x544000 x544001 x544002 x544003 x545000 x545001 bt552.1 bt552.2.1 bt552.2.2.1 bt552.2.2.2.1)) else (caesuralaw06_TableBack.j2 k x1 x7 bt552.2.2.2.2 false x544000 x544001 x544002 x544003 x545000 x545001 bt552.1 bt552.2.1 bt552.2.2.1 bt552.2.2.2.1)))
def caesuralaw06_TableBack.j2 : Nat → List Int → List Int → Int → Bool → Int → List (S52) → List (List Int) → List Bool → Int → Int → Int → List (S52) → List (List Int) → List Bool → Option (Bool)
 | 0, _, _, _, _, _, _, _, _, _, _, _, _, _, _ => none
 | k + 1, x1, x7, x10, x11, x544000, x544001, x544002, x544003, x545000, x545001, x564000, x564001, x564002, x564003 => if ((x10 == 0) != x11) = true then (caesuralaw06_TableBack.j3 k x1 x7 true x545000 x545001) else (if x11 = true then ((caesurakeep_Table.f k x544000 x544001 x544002 x544003 x564000 x564001 x564002 x564003).bind fun t564 => (if t564 = true then (caesuralaw06_TableBack.j3 k x1 x7 false x545000 x545001) else (caesuralaw06_TableBack.j3 k x1 x7 true x545000 x545001))) else (caesuralaw06_TableBack.j3 k x1 x7 (x10 != 24) x545000 x545001))
def caesuralaw06_TableBack.j3 : Nat → List Int → List Int → Bool → Int → Int → Option (Bool)
 | 0, _, _, _, _, _ => none
 | k + 1, x1, x7, x96, x545000, x545001 => if x96 = true then (none) else ((some (([] : List Int) : List Int)).bind fun y565 => (if y565.length + x7.length < 140737488355328 then ((some (y565 ++ x7 : List Int)).bind fun y568 => (if (y568.length : Int) = 0 then (none) else (if 0 ≤ (Int.tmod (wrap64 (x545000)) (y568.length : Int)) then (if (Int.tmod (wrap64 (x545000)) (y568.length : Int)) < (y568.length : Int) then ((table_Decode.f k (y568.set ((Int.tmod (wrap64 (x545000)) (y568.length : Int)) : Int).toNat (Go.bits .xor .u8 (rd y568 (Int.tmod (wrap64 (x545000)) (y568.length : Int))) ((1 + ((Int.tmod x545001 255) % 256)) % 256)))).bind fun bt573 => (if bt573.2.2.2.2 = 23 then (caesuralaw06_TableBack.j4 k x1) else (if bt573.2.2.2.2 = 22 then (caesuralaw06_TableBack.j4 k x1) else (none)))) else (none)) else (none)))) else (none)))
end
def caesuralaw06_TableBack.f (k : Nat) (a0_0 : Int) (l0_1 : List (S52)) (l0_2 : List (List Int)) (l0_3 : List Bool) (l1 : List Int) (a2_0 : Int) (a2_1 : Int) : Option (Bool) := (caesuralaw06_Large.f k a0_0 l0_1 l0_2 l0_3).bind fun t545 => (if t545 = true then (caesuralaw06_TableBack.j0 k l1 true a0_0 l0_1 l0_2 l0_3 a2_0 a2_1) else (caesuralaw06_TableBack.j0 k l1 (decide ((l1.length : Int) > 2000)) a0_0 l0_1 l0_2 l0_3 a2_0 a2_1))
theorem caesuralaw06_TableBack.mono_l : ∀ k, (∀ y0 y1 y2 y3 y4 y5 y6 y7, LeO (caesuralaw06_TableBack.j0 k y0 y1 y2 y3 y4 y5 y6 y7) (caesuralaw06_TableBack.j0 (k + 1) y0 y1 y2 y3 y4 y5 y6 y7)) ∧ (∀ y0, LeO (caesuralaw06_TableBack.j4 k y0) (caesuralaw06_TableBack.j4 (k + 1) y0)) ∧ (∀ y0 y1 y2 y3 y4 y5 y6 y7 y8, LeO (caesuralaw06_TableBack.j1 k y0 y1 y2 y3 y4 y5 y6 y7 y8) (caesuralaw06_TableBack.j1 (k + 1) y0 y1 y2 y3 y4 y5 y6 y7 y8)) ∧ (∀ y0 y1 y2 y3 y4 y5 y6 y7 y8 y9 y10 y11 y12 y13, LeO (caesuralaw06_TableBack.j2 k y0 y1 y2 y3 y4 y5 y6 y7 y8 y9 y10 y11 y12 y13) (caesuralaw06_TableBack.j2 (k + 1) y0 y1 y2 y3 y4 y5 y6 y7 y8 y9 y10 y11 y12 y13)) ∧ (∀ y0 y1 y2 y3 y4, LeO (caesuralaw06_TableBack.j3 k y0 y1 y2 y3 y4) (caesuralaw06_TableBack.j3 (k + 1) y0 y1 y2 y3 y4))
 | 0 => ⟨fun _ _ _ _ _ _ _ _ r h => by simp [caesuralaw06_TableBack.j0] at h, fun _ r h => by simp [caesuralaw06_TableBack.j4] at h, fun _ _ _ _ _ _ _ _ _ r h => by simp [caesuralaw06_TableBack.j1] at h, fun _ _ _ _ _ _ _ _ _ _ _ _ _ _ r h => by simp [caesuralaw06_TableBack.j2] at h, fun _ _ _ _ _ r h => by simp [caesuralaw06_TableBack.j3] at h⟩
 | k + 1 => by
  obtain ⟨ih0, ih1, ih2, ih3, ih4⟩ := caesuralaw06_TableBack.mono_l k
  refine ⟨?_, ?_, ?_, ?_, ?_⟩
  ·intro y0 y1 y2 y3 y4 y5 y6 y7
   unfold caesuralaw06_TableBack.j0
   repeat' first
   | (with_reducible exact ih0 _ _ _ _ _ _ _ _)
   | (with_reducible exact ih1 _)
   | (with_reducible exact ih2 _ _ _ _ _ _ _ _ _)
   | (with_reducible exact ih3 _ _ _ _ _ _ _ _ _ _ _ _ _ _)
   | (with_reducible exact ih4 _ _ _ _ _)
   | (with_reducible exact caesurakeep_Table.mono _ _ _ _ _ _ _ _ _)
   | (with_reducible exact caesuralaw06_Large.mono _ _ _ _ _)
   | (with_reducible exact caesuralaw06_wakes.mono _)
   | (with_reducible exact table_Decode.mono _ _)
   | (with_reducible exact table_Encode.mono _ _ _ _ _)
   | (with_reducible exact LeO.refl _)
   | (with_reducible exact LeO.none _)
   | (with_reducible refine LeO.ite ?_ ?_)
   | (with_reducible refine LeO.bind ?_ (fun _ => ?_))
   | exact ih0 _ _ _ _ _ _ _ _
   | exact ih1 _
   | exact ih2 _ _ _ _ _ _ _ _ _
   | exact ih3 _ _ _ _ _ _ _ _ _ _ _ _ _ _
   | exact ih4 _ _ _ _ _
   | exact caesurakeep_Table.mono _ _ _ _ _ _ _ _ _
   | exact caesuralaw06_Large.mono _ _ _ _ _
   | exact caesuralaw06_wakes.mono _
   | exact table_Decode.mono _ _
   | exact table_Encode.mono _ _ _ _ _
   | exact LeO.none _
   | refine LeO.ite ?_ ?_
   | refine LeO.bind ?_ (fun _ => ?_)
  ·intro y0
   unfold caesuralaw06_TableBack.j4
   repeat' first
   | (with_reducible exact ih0 _ _ _ _ _ _ _ _)
   | (with_reducible exact ih1 _)
   | (with_reducible exact ih2 _ _ _ _ _ _ _ _ _)
   | (with_reducible exact ih3 _ _ _ _ _ _ _ _ _ _ _ _ _ _)
   | (with_reducible exact ih4 _ _ _ _ _)
   | (with_reducible exact caesurakeep_Table.mono _ _ _ _ _ _ _ _ _)
   | (with_reducible exact caesuralaw06_Large.mono _ _ _ _ _)
   | (with_reducible exact caesuralaw06_wakes.mono _)
   | (with_reducible exact table_Decode.mono _ _)
   | (with_reducible exact table_Encode.mono _ _ _ _ _)
   | (with_reducible exact LeO.refl _)
   | (with_reducible exact LeO.none _)
   | (with_reducible refine LeO.ite ?_ ?_)
   | (with_reducible refine LeO.bind ?_ (fun _ => ?_))
   | exact ih0 _ _ _ _ _ _ _ _
   | exact ih1 _
   | exact ih2 _ _ _ _ _ _ _ _ _
   | exact ih3 _ _ _ _ _ _ _ _ _ _ _ _ _ _
   | exact ih4 _ _ _ _ _
   | exact caesurakeep_Table.mono _ _ _ _ _ _ _ _ _
   | exact caesuralaw06_Large.mono _ _ _ _ _
   | exact caesuralaw06_wakes.mono _
   | exact table_Decode.mono _ _
   | exact table_Encode.mono _ _ _ _ _
   | exact LeO.none _
   | refine LeO.ite ?_ ?_
   | refine LeO.bind ?_ (fun _ => ?_)
  ·intro y0 y1 y2 y3 y4 y5 y6 y7 y8
   unfold caesuralaw06_TableBack.j1
   repeat' first
   | (with_reducible exact ih0 _ _ _ _ _ _ _ _)
   | (with_reducible exact ih1 _)
   | (with_reducible exact ih2 _ _ _ _ _ _ _ _ _)
   | (with_reducible exact ih3 _ _ _ _ _ _ _ _ _ _ _ _ _ _)
   | (with_reducible exact ih4 _ _ _ _ _)
   | (with_reducible exact caesurakeep_Table.mono _ _ _ _ _ _ _ _ _)
   | (with_reducible exact caesuralaw06_Large.mono _ _ _ _ _)
   | (with_reducible exact caesuralaw06_wakes.mono _)
   | (with_reducible exact table_Decode.mono _ _)
   | (with_reducible exact table_Encode.mono _ _ _ _ _)
   | (with_reducible exact LeO.refl _)
   | (with_reducible exact LeO.none _)
   | (with_reducible refine LeO.ite ?_ ?_)
   | (with_reducible refine LeO.bind ?_ (fun _ => ?_))
   | exact ih0 _ _ _ _ _ _ _ _
   | exact ih1 _
   | exact ih2 _ _ _ _ _ _ _ _ _
   | exact ih3 _ _ _ _ _ _ _ _ _ _ _ _ _ _
   | exact ih4 _ _ _ _ _
   | exact caesurakeep_Table.mono _ _ _ _ _ _ _ _ _
   | exact caesuralaw06_Large.mono _ _ _ _ _
   | exact caesuralaw06_wakes.mono _
   | exact table_Decode.mono _ _
   | exact table_Encode.mono _ _ _ _ _
   | exact LeO.none _
   | refine LeO.ite ?_ ?_
   | refine LeO.bind ?_ (fun _ => ?_)
  ·intro y0 y1 y2 y3 y4 y5 y6 y7 y8 y9 y10 y11 y12 y13
   unfold caesuralaw06_TableBack.j2
   repeat' first
   | (with_reducible exact ih0 _ _ _ _ _ _ _ _)
   | (with_reducible exact ih1 _)
   | (with_reducible exact ih2 _ _ _ _ _ _ _ _ _)
   | (with_reducible exact ih3 _ _ _ _ _ _ _ _ _ _ _ _ _ _)
   | (with_reducible exact ih4 _ _ _ _ _)
   | (with_reducible exact caesurakeep_Table.mono _ _ _ _ _ _ _ _ _)
   | (with_reducible exact caesuralaw06_Large.mono _ _ _ _ _)
   | (with_reducible exact caesuralaw06_wakes.mono _)
   | (with_reducible exact table_Decode.mono _ _)
   | (with_reducible exact table_Encode.mono _ _ _ _ _)
   | (with_reducible exact LeO.refl _)
   | (with_reducible exact LeO.none _)
   | (with_reducible refine LeO.ite ?_ ?_)
   | (with_reducible refine LeO.bind ?_ (fun _ => ?_))
   | exact ih0 _ _ _ _ _ _ _ _
   | exact ih1 _
   | exact ih2 _ _ _ _ _ _ _ _ _
   | exact ih3 _ _ _ _ _ _ _ _ _ _ _ _ _ _
   | exact ih4 _ _ _ _ _
   | exact caesurakeep_Table.mono _ _ _ _ _ _ _ _ _
   | exact caesuralaw06_Large.mono _ _ _ _ _
   | exact caesuralaw06_wakes.mono _
   | exact table_Decode.mono _ _
   | exact table_Encode.mono _ _ _ _ _
   | exact LeO.none _
   | refine LeO.ite ?_ ?_
   | refine LeO.bind ?_ (fun _ => ?_)
  ·intro y0 y1 y2 y3 y4
   unfold caesuralaw06_TableBack.j3
   repeat' first
   | (with_reducible exact ih0 _ _ _ _ _ _ _ _)
   | (with_reducible exact ih1 _)
   | (with_reducible exact ih2 _ _ _ _ _ _ _ _ _)
   | (with_reducible exact ih3 _ _ _ _ _ _ _ _ _ _ _ _ _ _)
   | (with_reducible exact ih4 _ _ _ _ _)
   | (with_reducible exact caesurakeep_Table.mono _ _ _ _ _ _ _ _ _)
   | (with_reducible exact caesuralaw06_Large.mono _ _ _ _ _)
   | (with_reducible exact caesuralaw06_wakes.mono _)
   | (with_reducible exact table_Decode.mono _ _)
   | (with_reducible exact table_Encode.mono _ _ _ _ _)
   | (with_reducible exact LeO.refl _)
   | (with_reducible exact LeO.none _)
   | (with_reducible refine LeO.ite ?_ ?_)
   | (with_reducible refine LeO.bind ?_ (fun _ => ?_))
   | exact ih0 _ _ _ _ _ _ _ _
   | exact ih1 _
   | exact ih2 _ _ _ _ _ _ _ _ _
   | exact ih3 _ _ _ _ _ _ _ _ _ _ _ _ _ _
   | exact ih4 _ _ _ _ _
   | exact caesurakeep_Table.mono _ _ _ _ _ _ _ _ _
   | exact caesuralaw06_Large.mono _ _ _ _ _
   | exact caesuralaw06_wakes.mono _
   | exact table_Decode.mono _ _
   | exact table_Encode.mono _ _ _ _ _
   | exact LeO.none _
   | refine LeO.ite ?_ ?_
   | refine LeO.bind ?_ (fun _ => ?_)
theorem caesuralaw06_TableBack.mono : ∀ a0 a1 a2 a3 a4 a5 a6 k, LeO (caesuralaw06_TableBack.f k a0 a1 a2 a3 a4 a5 a6) (caesuralaw06_TableBack.f (k + 1) a0 a1 a2 a3 a4 a5 a6) := by
 intro a0 a1 a2 a3 a4 a5 a6 k
 obtain ⟨ih0, ih1, ih2, ih3, ih4⟩ := caesuralaw06_TableBack.mono_l k
 unfold caesuralaw06_TableBack.f
 repeat' first
   | (with_reducible exact ih0 _ _ _ _ _ _ _ _)
   | (with_reducible exact ih1 _)
   | (with_reducible exact ih2 _ _ _ _ _ _ _ _ _)
   | (with_reducible exact ih3 _ _ _ _ _ _ _ _ _ _ _ _ _ _)
   | (with_reducible exact ih4 _ _ _ _ _)
   | (with_reducible exact caesurakeep_Table.mono _ _ _ _ _ _ _ _ _)
   | (with_reducible exact caesuralaw06_Large.mono _ _ _ _ _)
   | (with_reducible exact caesuralaw06_wakes.mono _)
   | (with_reducible exact table_Decode.mono _ _)
   | (with_reducible exact table_Encode.mono _ _ _ _ _)
   | (with_reducible exact LeO.refl _)
   | (with_reducible exact LeO.none _)
   | (with_reducible refine LeO.ite ?_ ?_)
   | (with_reducible refine LeO.bind ?_ (fun _ => ?_))
   | exact ih0 _ _ _ _ _ _ _ _
   | exact ih1 _
   | exact ih2 _ _ _ _ _ _ _ _ _
   | exact ih3 _ _ _ _ _ _ _ _ _ _ _ _ _ _
   | exact ih4 _ _ _ _ _
   | exact caesurakeep_Table.mono _ _ _ _ _ _ _ _ _
   | exact caesuralaw06_Large.mono _ _ _ _ _
   | exact caesuralaw06_wakes.mono _
   | exact table_Decode.mono _ _
   | exact table_Encode.mono _ _ _ _ _
   | exact LeO.none _
   | refine LeO.ite ?_ ?_
   | refine LeO.bind ?_ (fun _ => ?_)
def caesuralaw06_TableBack.T12 : Bool × List (List Nat × List Nat) := (true, [([], []), ([], []), ([1], [1]), ([2], [2]), ([], []), ([4], [4]), ([3, 5], [3, 5]), ([0, 6], [0, 6]), ([7], [7]), ([], []), ([9], [9]), ([10], [10]), ([11], [11]), ([12], [12]), ([8, 13], [8, 13]), ([0, 6, 0, 1, 2, 3, 4, 5, 6, 7, 8, 9, 10, 11, 12, 13, 14], [0, 6]), ([15, 14, 0, 1, 2, 3, 4, 5, 6, 7, 8, 9, 10, 11, 12, 13, 14], [14, 15])])
def caesuralaw06_TableBack.B12 : List Nat := [0, 0, 2, 6, 0, 16, 62, 127, 255, 0, 512, 1536, 3584, 7680, 16383, 32767, 65535]
theorem caesuralaw06_TableBack.tab12 : rtab .any (opsOf Try.f4 12) = caesuralaw06_TableBack.T12 := by kernel_rfl
theorem caesuralaw06_TableBack.bits12 : waitsOk caesuralaw06_TableBack.T12.2 caesuralaw06_TableBack.B12 = true := by kernel_rfl
set_option maxHeartbeats 8000000 in
set_option maxRecDepth 100000 in
theorem caesuralaw06_TableBack.calls (k : Nat) (a0_0 : Int) (A0_1 : Option Addr) (c0_1 : Nat) (l0_1 : List (S52)) (A0_2 : Option Addr) (c0_2 : Nat) (l0_2 : List (List Int)) (A0_3 : Option Addr) (c0_3 : Nat) (l0_3 : List Bool) (A1 : Option Addr) (c1 : Nat) (l1 : List Int) (a2_0 : Int) (a2_1 : Int) (r : Bool) (w : World) (hr0_1 : Kd.C k52 w A0_1 l0_1.length l0_1) (hc0_1 : l0_1.length ≤ c0_1) (hr0_2 : Kd.C (Kd.slice 3 (Kd.int .i64)) w A0_2 l0_2.length l0_2) (hc0_2 : l0_2.length ≤ c0_2) (hr0_3 : Kd.C Kd.bool w A0_3 l0_3.length l0_3) (hc0_3 : l0_3.length ≤ c0_3) (hr1 : Kd.C (Kd.int .u8) w A1 l1.length l1) (hc1 : l1.length ≤ c1) (h : caesuralaw06_TableBack.f k a0_0 l0_1 l0_2 l0_3 l1 a2_0 a2_1 = some r) :
  Calls Try.prog 4 #[.agg #[.int .i64 a0_0, .slice A0_1 l0_1.length c0_1, .slice A0_2 l0_2.length c0_2, .slice A0_3 l0_3.length c0_3], .slice A1 l1.length c1, .agg #[.int .u16 a2_0, .int .u16 a2_1]] w fun e w' => e = .returned (.bool r) ∧ Below w.heap.size w w' := by
 have hu26 := Try.underlying26
 have hu44 := Try.underlying44
 have HR0_1 := Aside0.mk hr0_1
 have HC0_1 := Aside0.mk hc0_1
 clear hr0_1 hc0_1
 have HR0_2 := Aside0.mk hr0_2
 have HC0_2 := Aside0.mk hc0_2
 clear hr0_2 hc0_2
 have HR0_3 := Aside0.mk hr0_3
 have HC0_3 := Aside0.mk hc0_3
 clear hr0_3 hc0_3
 have HR1 := Aside0.mk hr1
 have HC1 := Aside0.mk hc1
 clear hr1 hc1
 have HB := Aside0.mk (Below.refl w.heap.size w)
 have H : ((caesuralaw06_Large.f k a0_0 l0_1 l0_2 l0_3).bind fun t545 => (if t545 = true then (caesuralaw06_TableBack.j0 k l1 true a0_0 l0_1 l0_2 l0_3 a2_0 a2_1) else (caesuralaw06_TableBack.j0 k l1 (decide ((l1.length : Int) > 2000)) a0_0 l0_1 l0_2 l0_3 a2_0 a2_1))) = some r := h
 clear h
 have HC4 := Aside0.mk H
 clear H
 go_enter Try.func4, Try.ntmps4
 go_upto_region 1 with (first | ((with_reducible refine gate_dst (N := 3) rfl ?_); xgg_; refine box_event ?hg (N := 3) ?hd (cs := #[.int .i64 a0_0, .slice A0_1 l0_1.length c0_1, .slice A0_2 l0_2.length c0_2, .slice A0_3 l0_3.length c0_3]) (t := 26) ?hr ?_; (case hd => rfl); (case hg => rfl); (case hr => xgs_); intro gb543 hg w5 hbox hb; have n0_ := Aside0.mk (below_step (by repeat (first | (with_reducible first | exact HB.out | apply below_alloc | apply pw_below_drewN | apply below_drew1) | exact HB.out)) hb); have n1_ := Aside0.mk (hbox); have n2_ := Aside0.mk ((by rw [hg]; exact (below_size (by repeat (first | (with_reducible first | exact HB.out | apply below_alloc | apply pw_below_drewN | apply below_drew1) | exact HB.out))) : w.heap.size ≤ gb543)); have n3_ := Aside0.mk ((by rw [hg]; exact (below_size (by repeat (first | (with_reducible first | exact HB.out | apply below_alloc | apply pw_below_drewN | apply below_drew1) | exact HB.out))) : w.heap.size ≤ gb543)); clear HB; have HB := n0_; have BK543 := n1_; have GW543 := n2_; have GE543 := n3_; clear n0_ n1_ n2_ n3_; clear hb hbox hg) | ((with_reducible refine gate_dst (N := 5) rfl ?_); xgg_; refine box_event ?hg (N := 5) ?hd (cs := #[.int .u16 a2_0, .int .u16 a2_1]) (t := 44) ?hr ?_; (case hd => rfl); (case hg => rfl); (case hr => xgs_); intro gb544 hg w6 hbox hb; have n0_ := Aside0.mk (blk_below (g := gb543) (o := .cells #[.int .i64 a0_0, .slice A0_1 l0_1.length c0_1, .slice A0_2 l0_2.length c0_2, .slice A0_3 l0_3.length c0_3] 26 (0, 0)) (by xkb_; exact BK543.out) hb); have n1_ := Aside0.mk (below_step (by repeat (first | (with_reducible first | exact HB.out | apply below_alloc | apply pw_below_drewN | apply below_drew1 | refine below_set ?_ GE543.out) | exact HB.out)) hb); have n2_ := Aside0.mk (hbox); have n3_ := Aside0.mk ((by rw [hg]; exact (below_size (by repeat (first | (with_reducible first | exact HB.out | apply below_alloc | apply pw_below_drewN | apply below_drew1 | refine below_set ?_ GE543.out) | exact HB.out))) : w.heap.size ≤ gb544)); have n4_ := Aside0.mk ((by rw [hg]; exact (below_size (by repeat (first | (with_reducible first | exact HB.out | apply below_alloc | apply pw_below_drewN | apply below_drew1 | refine below_set ?_ GE543.out) | exact HB.out))) : w.heap.size ≤ gb544)); have n5_ := Aside0.mk ((by rw [hg]; exact Nat.ne_of_lt (blk_lt (g := gb543) (o := .cells #[.int .i64 a0_0, .slice A0_1 l0_1.length c0_1, .slice A0_2 l0_2.length c0_2, .slice A0_3 l0_3.length c0_3] 26 (0, 0)) (by xkb_; exact BK543.out)) : gb543 ≠ gb544)); have n6_ := Aside0.mk ((by rw [hg]; exact Nat.ne_of_gt (blk_lt (g := gb543) (o := .cells #[.int .i64 a0_0, .slice A0_1 l0_1.length c0_1, .slice A0_2 l0_2.length c0_2, .slice A0_3 l0_3.length c0_3] 26 (0, 0)) (by xkb_; exact BK543.out)) : gb544 ≠ gb543)); clear BK543; clear HB; have BK543 := n0_; have HB := n1_; have BK544 := n2_; have GW544 := n3_; have GE544 := n4_; have NB543_544 := n5_; have NB544_543 := n6_; clear n0_ n1_ n2_ n3_ n4_ n5_ n6_; clear hb hbox hg))
 (try simp only [Act.put, List.setIfInBounds_toArray, List.set_cons_zero, List.set_cons_succ])
 go_cut [25] (fun v25 wc => ∃ (kq : Nat) (x25_3 : Bool), v25 = .bool x25_3 ∧ Aside0 (caesuralaw06_TableBack.j0 kq l1 x25_3 a0_0 l0_1 l0_2 l0_3 a2_0 a2_1 = some r) ∧ Aside0 (kq ≤ k) ∧ Aside0 (wc.heap[gb543]? = some (.cells #[.int .i64 a0_0, (.slice A0_1 l0_1.length c0_1), (.slice A0_2 l0_2.length c0_2), (.slice A0_3 l0_3.length c0_3)] 26 (0, 0))) ∧ Aside0 (wc.heap[gb544]? = some (.cells #[.int .u16 a2_0, .int .u16 a2_1] 44 (0, 0))) ∧ Aside0 (Below w.heap.size w wc))
 case first =>
  have H := HC4.out
  clear HC4
  replace H := Option.bind_eq_some_iff.mp H
  obtain ⟨t545, A70, H⟩ := H
  replace H : (if t545 = true then (caesuralaw06_TableBack.j0 k l1 true a0_0 l0_1 l0_2 l0_3 a2_0 a2_1) else (caesuralaw06_TableBack.j0 k l1 (decide ((l1.length : Int) > 2000)) a0_0 l0_1 l0_2 l0_3 a2_0 a2_1)) = some r := H
  have A7 := Aside0.mk A70
  clear A70
  by_cases c8 : t545 = true
  ·subst c8
   have H1 : (caesuralaw06_TableBack.j0 k l1 true a0_0 l0_1 l0_2 l0_3 a2_0 a2_1) = some r := by rw [if_pos rfl] at H; exact H
   clear H
   have H := H1
   clear H1
   have H' := Aside0.mk H
   clear H
   have hnb9 := NB543_544.out
   have hnc9 := NB544_543.out
   have hcz10_0 : w6.cell? ⟨gb543, 0, none⟩ = some (.int .i64 a0_0) := (blk_cell BK543.out 0).trans rfl
   have hcz10_1 : w6.cell? ⟨gb543, 1, none⟩ = some (.slice A0_1 l0_1.length c0_1) := (blk_cell BK543.out 1).trans rfl
   have hcz10_2 : w6.cell? ⟨gb543, 2, none⟩ = some (.slice A0_2 l0_2.length c0_2) := (blk_cell BK543.out 2).trans rfl
   have hcz10_3 : w6.cell? ⟨gb543, 3, none⟩ = some (.slice A0_3 l0_3.length c0_3) := (blk_cell BK543.out 3).trans rfl
   have hfz10_0 := blk_frozen BK543.out 0
   have hfz10_1 := blk_frozen BK543.out 1
   have hfz10_2 := blk_frozen BK543.out 2
   have hfz10_3 := blk_frozen BK543.out 3
   go_wp2_with (first | ((with_reducible refine gate_callee (f := 9) rfl ?_); refine goesL_ (some 20) rfl rfl Try.func9 (by kernel_rfl) rfl #[.agg #[.int .i64 a0_0, .slice A0_1 l0_1.length c0_1, .slice A0_2 l0_2.length c0_2, .slice A0_3 l0_3.length c0_3]] rfl (by xlm_) ?_; (with_reducible refine (caesuralaw06_Large.calls k a0_0 _ _ l0_1 _ _ l0_2 _ _ l0_3 true _ ?side1 ?side2 ?side3 ?side4 ?side5 ?side6 A7.out).mono ?_); (case side1 => repeat (first | exact (Kd.C_below HR0_1.out HB.out) | xkC_)); (case side2 => exact HC0_1.out); (case side3 => repeat (first | exact (Kd.C_below HR0_2.out HB.out) | xkC_)); (case side4 => exact HC0_2.out); (case side5 => repeat (first | exact (Kd.C_below HR0_3.out HB.out) | xkC_)); (case side6 => exact HC0_3.out); rintro e w11 ⟨rfl, hb⟩; refine ⟨_, rfl, ?_⟩; have n0_ := Aside0.mk (blk_below (g := gb543) (o := .cells #[.int .i64 a0_0, .slice A0_1 l0_1.length c0_1, .slice A0_2 l0_2.length c0_2, .slice A0_3 l0_3.length c0_3] 26 (0, 0)) (by xkb_; exact BK543.out) hb); have n1_ := Aside0.mk (blk_below (g := gb544) (o := .cells #[.int .u16 a2_0, .int .u16 a2_1] 44 (0, 0)) (by xkb_; exact BK544.out) hb); have n2_ := Aside0.mk (below_step (by repeat (first | (with_reducible first | exact HB.out | apply below_alloc | apply pw_below_drewN | apply below_drew1 | refine below_set ?_ GE543.out | refine below_set ?_ GE544.out) | exact HB.out)) hb); clear BK543; clear BK544; clear HB; have BK543 := n0_; have BK544 := n1_; have HB := n2_; clear n0_ n1_ n2_; (try clear hb); (try clear hb2); (try clear hk); (try clear hi)))
   go_meet
   case rel => exact ⟨_, (true), (by xrs_), H', ⟨by first | omega | exact Nat.le_refl _⟩, ⟨by xkb_; exact BK543.out⟩, ⟨by xkb_; exact BK544.out⟩, ⟨by repeat (first | (with_reducible first | exact HB.out | apply below_alloc | apply pw_below_drewN | apply below_drew1 | refine below_set ?_ GE543.out | refine below_set ?_ GE544.out) | exact HB.out)⟩⟩
  ·replace c8 := Bool.eq_false_iff.mpr c8
   subst c8
   have H1 : (caesuralaw06_TableBack.j0 k l1 (decide ((l1.length : Int) > 2000)) a0_0 l0_1 l0_2 l0_3 a2_0 a2_1) = some r := by rw [if_neg (show ¬ (false = true) by decide)] at H; exact H
   clear H
   have H := H1
   clear H1
   have H' := Aside0.mk H
   clear H
   have hnb12 := NB543_544.out
   have hnc12 := NB544_543.out
   have hcz13_0 : w6.cell? ⟨gb543, 0, none⟩ = some (.int .i64 a0_0) := (blk_cell BK543.out 0).trans rfl
   have hcz13_1 : w6.cell? ⟨gb543, 1, none⟩ = some (.slice A0_1 l0_1.length c0_1) := (blk_cell BK543.out 1).trans rfl
   have hcz13_2 : w6.cell? ⟨gb543, 2, none⟩ = some (.slice A0_2 l0_2.length c0_2) := (blk_cell BK543.out 2).trans rfl
   have hcz13_3 : w6.cell? ⟨gb543, 3, none⟩ = some (.slice A0_3 l0_3.length c0_3) := (blk_cell BK543.out 3).trans rfl
   have hfz13_0 := blk_frozen BK543.out 0
   have hfz13_1 := blk_frozen BK543.out 1
   have hfz13_2 := blk_frozen BK543.out 2
   have hfz13_3 := blk_frozen BK543.out 3
   go_wp2_with (first | ((with_reducible refine gate_callee (f := 9) rfl ?_); refine goesL_ (some 20) rfl rfl Try.func9 (by kernel_rfl) rfl #[.agg #[.int .i64 a0_0, .slice A0_1 l0_1.length c0_1, .slice A0_2 l0_2.length c0_2, .slice A0_3 l0_3.length c0_3]] rfl (by xlm_) ?_; (with_reducible refine (caesuralaw06_Large.calls k a0_0 _ _ l0_1 _ _ l0_2 _ _ l0_3 false _ ?side1 ?side2 ?side3 ?side4 ?side5 ?side6 A7.out).mono ?_); (case side1 => repeat (first | exact (Kd.C_below HR0_1.out HB.out) | xkC_)); (case side2 => exact HC0_1.out); (case side3 => repeat (first | exact (Kd.C_below HR0_2.out HB.out) | xkC_)); (case side4 => exact HC0_2.out); (case side5 => repeat (first | exact (Kd.C_below HR0_3.out HB.out) | xkC_)); (case side6 => exact HC0_3.out); rintro e w14 ⟨rfl, hb⟩; refine ⟨_, rfl, ?_⟩; have n0_ := Aside0.mk (blk_below (g := gb543) (o := .cells #[.int .i64 a0_0, .slice A0_1 l0_1.length c0_1, .slice A0_2 l0_2.length c0_2, .slice A0_3 l0_3.length c0_3] 26 (0, 0)) (by xkb_; exact BK543.out) hb); have n1_ := Aside0.mk (blk_below (g := gb544) (o := .cells #[.int .u16 a2_0, .int .u16 a2_1] 44 (0, 0)) (by xkb_; exact BK544.out) hb); have n2_ := Aside0.mk (below_step (by repeat (first | (with_reducible first | exact HB.out | apply below_alloc | apply pw_below_drewN | apply below_drew1 | refine below_set ?_ GE543.out | refine below_set ?_ GE544.out) | exact HB.out)) hb); clear BK543; clear BK544; clear HB; have BK543 := n0_; have BK544 := n1_; have HB := n2_; clear n0_ n1_ n2_; (try clear hb); (try clear hb2); (try clear hk); (try clear hi)))
   go_meet
   case rel => exact ⟨_, (decide ((l1.length : Int) > 2000)), (by xrs_), H', ⟨by first | omega | exact Nat.le_refl _⟩, ⟨by xkb_; exact BK543.out⟩, ⟨by xkb_; exact BK544.out⟩, ⟨by repeat (first | (with_reducible first | exact HB.out | apply below_alloc | apply pw_below_drewN | apply below_drew1 | refine below_set ?_ GE543.out | refine below_set ?_ GE544.out) | exact HB.out)⟩⟩
 case rest =>
  clear HC4
  xcl_ c1 p2 c4 c8 c9 c12 hcz10_0 hcz10_1 hcz10_2 hcz10_3 hcz13_0 hcz13_1 hcz13_2 hcz13_3 hfz10_0 hfz10_1 hfz10_2 hfz10_3 hfz13_0 hfz13_1 hfz13_2 hfz13_3
  obtain ⟨kq, x25_3, rfl, HA, HJ3, BK543, BK544, HB⟩ := hcut
  cases kq with
  | zero => exact absurd HA.out (by simp [caesuralaw06_TableBack.j0])
  | succ kj3 =>
   have H := HA.out
   clear HA
   simp only [caesuralaw06_TableBack.j0] at H
   by_cases c15 : x25_3 = true
   ·subst c15
    have H1 : ((caesuralaw06_wakes.f kj3).bind fun t546 => (some t546)) = some r := by rw [if_pos rfl] at H; exact H
    clear H
    have H := H1
    clear H1
    replace H := Option.bind_eq_some_iff.mp H
    obtain ⟨t546, A160, H⟩ := H
    replace H : (some t546) = some r := H
    have A16 := Aside0.mk A160
    clear A160
    obtain rfl := Option.some.inj H
    go_wp2_with (first | ((with_reducible refine gate_callee (f := 10) rfl ?_); refine goesL_ (some 26) rfl rfl Try.func10 (by kernel_rfl) rfl #[] rfl (by xlm_) ?_; (with_reducible refine (caesuralaw06_wakes.calls kj3  t546 _ A16.out).mono ?_); rintro e w17 ⟨rfl, hb⟩; refine ⟨_, rfl, ?_⟩; have n0_ := Aside0.mk (blk_below (g := gb543) (o := .cells #[.int .i64 a0_0, .slice A0_1 l0_1.length c0_1, .slice A0_2 l0_2.length c0_2, .slice A0_3 l0_3.length c0_3] 26 (0, 0)) (by xkb_; exact BK543.out) hb); have n1_ := Aside0.mk (blk_below (g := gb544) (o := .cells #[.int .u16 a2_0, .int .u16 a2_1] 44 (0, 0)) (by xkb_; exact BK544.out) hb); have n2_ := Aside0.mk (below_step (by repeat (first | (with_reducible first | exact HB.out | apply below_alloc | apply pw_below_drewN | apply below_drew1 | refine below_set ?_ GE543.out | refine below_set ?_ GE544.out) | exact HB.out)) hb); clear BK543; clear BK544; clear HB; have BK543 := n0_; have BK544 := n1_; have HB := n2_; clear n0_ n1_ n2_; (try clear hb); (try clear hb2); (try clear hk); (try clear hi)))
    go_ret
    exact ⟨by first | rfl | (simp [errW_none, errW_some] <;> rfl) | (simp [*, errW_none, errW_some] <;> rfl), by repeat (first | (with_reducible first | exact HB.out | apply below_alloc | apply pw_below_drewN | apply below_drew1 | refine below_set ?_ GE543.out | refine below_set ?_ GE544.out) | exact HB.out)⟩
   ·replace c15 := Bool.eq_false_iff.mpr c15
    subst c15
    have H1 : ((table_Encode.f kj3 a0_0 l0_1 l0_2 l0_3).bind fun bt547 => (if bt547.2 = true then (if (bt547.1.length : Int) < 11 then (caesuralaw06_TableBack.j1 kj3 l1 bt547.1 true a0_0 l0_1 l0_2 l0_3 a2_0 a2_1) else ((table_Length.f a0_0 (l0_2.length : Int) (l0_1.length : Int)).bind fun t551 => (caesuralaw06_TableBack.j1 kj3 l1 bt547.1 ((bt547.1.length : Int) != t551) a0_0 l0_1 l0_2 l0_3 a2_0 a2_1))) else (caesuralaw06_TableBack.j4 kj3 l1))) = some r := by rw [if_neg (show ¬ (false = true) by decide)] at H; exact H
    clear H
    have H := H1
    clear H1
    replace H := Option.bind_eq_some_iff.mp H
    obtain ⟨⟨t547, t550⟩, A180, H⟩ := H
    replace H : (if t550 = true then (if (t547.length : Int) < 11 then (caesuralaw06_TableBack.j1 kj3 l1 t547 true a0_0 l0_1 l0_2 l0_3 a2_0 a2_1) else ((table_Length.f a0_0 (l0_2.length : Int) (l0_1.length : Int)).bind fun t551 => (caesuralaw06_TableBack.j1 kj3 l1 t547 ((t547.length : Int) != t551) a0_0 l0_1 l0_2 l0_3 a2_0 a2_1))) else (caesuralaw06_TableBack.j4 kj3 l1)) = some r := H
    have A18 := Aside0.mk A180
    clear A180
    have HC19 := Aside0.mk H
    clear H
    have hnb20 := NB543_544.out
    have hnc20 := NB544_543.out
    have hcz21_0 : wc.cell? ⟨gb543, 0, none⟩ = some (.int .i64 a0_0) := (blk_cell BK543.out 0).trans rfl
    have hcz21_1 : wc.cell? ⟨gb543, 1, none⟩ = some (.slice A0_1 l0_1.length c0_1) := (blk_cell BK543.out 1).trans rfl
    have hcz21_2 : wc.cell? ⟨gb543, 2, none⟩ = some (.slice A0_2 l0_2.length c0_2) := (blk_cell BK543.out 2).trans rfl
    have hcz21_3 : wc.cell? ⟨gb543, 3, none⟩ = some (.slice A0_3 l0_3.length c0_3) := (blk_cell BK543.out 3).trans rfl
    have hfz21_0 := blk_frozen BK543.out 0
    have hfz21_1 := blk_frozen BK543.out 1
    have hfz21_2 := blk_frozen BK543.out 2
    have hfz21_3 := blk_frozen BK543.out 3
    go_upto_if 32 with (first | ((with_reducible refine gate_callee (f := 12) rfl ?_); refine goesL_ (some 29) rfl rfl Try.func12 (by kernel_rfl) rfl #[.agg #[.int .i64 a0_0, .slice A0_1 l0_1.length c0_1, .slice A0_2 l0_2.length c0_2, .slice A0_3 l0_3.length c0_3]] rfl (by xlm_) ?_; (with_reducible refine (table_Encode.calls kj3 a0_0 _ _ l0_1 _ _ l0_2 _ _ l0_3 t547 t550 _ ?side1 ?side2 ?side3 ?side4 ?side5 ?side6 A18.out).mono ?_); (case side1 => repeat (first | exact (Kd.C_below HR0_1.out HB.out) | xkC_)); (case side2 => exact HC0_1.out); (case side3 => repeat (first | exact (Kd.C_below HR0_2.out HB.out) | xkC_)); (case side4 => exact HC0_2.out); (case side5 => repeat (first | exact (Kd.C_below HR0_3.out HB.out) | xkC_)); (case side6 => exact HC0_3.out); rintro e w22 ⟨v548, rfl, ho0, hb⟩; refine ⟨_, rfl, ?_⟩; have n0_ := Aside0.mk (Kd.R_lower ho0 (below_size (by repeat (first | (with_reducible first | exact HB.out | apply below_alloc | apply pw_below_drewN | apply below_drew1 | refine below_set ?_ GE543.out | refine below_set ?_ GE544.out) | exact HB.out)))); have n1_ := Aside0.mk (blk_below (g := gb543) (o := .cells #[.int .i64 a0_0, .slice A0_1 l0_1.length c0_1, .slice A0_2 l0_2.length c0_2, .slice A0_3 l0_3.length c0_3] 26 (0, 0)) (by xkb_; exact BK543.out) hb); have n2_ := Aside0.mk (blk_below (g := gb544) (o := .cells #[.int .u16 a2_0, .int .u16 a2_1] 44 (0, 0)) (by xkb_; exact BK544.out) hb); have n3_ := Aside0.mk (below_step (by repeat (first | (with_reducible first | exact HB.out | apply below_alloc | apply pw_below_drewN | apply below_drew1 | refine below_set ?_ GE543.out | refine below_set ?_ GE544.out) | exact HB.out)) hb); clear BK543; clear BK544; clear HB; have HO549 := n0_; have BK543 := n1_; have BK544 := n2_; have HB := n3_; clear n0_ n1_ n2_ n3_; (try clear hb); (try clear hb2); (try clear hk); (try clear hi); (try clear ho0)))
    (try simp only [Act.put, List.setIfInBounds_toArray, List.set_cons_zero, List.set_cons_succ])
    go_cut [] (fun wc => ∃ (kq : Nat), Aside0 (caesuralaw06_TableBack.j4 kq l1 = some r) ∧ Aside0 (kq ≤ kj3) ∧ Aside0 (wc.heap[gb543]? = some (.cells #[.int .i64 a0_0, (.slice A0_1 l0_1.length c0_1), (.slice A0_2 l0_2.length c0_2), (.slice A0_3 l0_3.length c0_3)] 26 (0, 0))) ∧ Aside0 (wc.heap[gb544]? = some (.cells #[.int .u16 a2_0, .int .u16 a2_1] 44 (0, 0))) ∧ Aside0 (Below w.heap.size w wc))
    case first =>
     have H := HC19.out
     clear HC19
     by_cases c23 : t550 = true
     ·subst c23
      have H1 : (if (t547.length : Int) < 11 then (caesuralaw06_TableBack.j1 kj3 l1 t547 true a0_0 l0_1 l0_2 l0_3 a2_0 a2_1) else ((table_Length.f a0_0 (l0_2.length : Int) (l0_1.length : Int)).bind fun t551 => (caesuralaw06_TableBack.j1 kj3 l1 t547 ((t547.length : Int) != t551) a0_0 l0_1 l0_2 l0_3 a2_0 a2_1))) = some r := by rw [if_pos rfl] at H; exact H
      clear H
      have H := H1
      clear H1
      have HC24 := Aside0.mk H
      clear H
      go_upto_region 5 with (fail)
      go_cut [49] (fun v49 wc => ∃ (kq : Nat) (x49_23 : Bool), v49 = .bool x49_23 ∧ Aside0 (caesuralaw06_TableBack.j1 kq l1 t547 x49_23 a0_0 l0_1 l0_2 l0_3 a2_0 a2_1 = some r) ∧ Aside0 (kq ≤ kj3) ∧ Aside0 (Kd.R (Kd.int .u8) 5 wc w.heap.size (fun _ => True) v548 t547) ∧ Aside0 (wc.heap[gb543]? = some (.cells #[.int .i64 a0_0, (.slice A0_1 l0_1.length c0_1), (.slice A0_2 l0_2.length c0_2), (.slice A0_3 l0_3.length c0_3)] 26 (0, 0))) ∧ Aside0 (wc.heap[gb544]? = some (.cells #[.int .u16 a2_0, .int .u16 a2_1] 44 (0, 0))) ∧ Aside0 (Below w.heap.size w wc))
      case first =>
       have H := HC24.out
       clear HC24
       by_cases c25 : (t547.length : Int) < 11
       ·rw [if_pos c25] at H
        have c25b0 : decide ((t547.length : Int) < 11) = true := decide_eq_true c25
        have c25b1 : decide (t547.length < 11) = true := decide_eq_true (by omega)
        clear c25
        (first | rw [c25b0] | (simp only [i64_w, i32_w]; rw [c25b0]) | skip)
        have H' := Aside0.mk H
        clear H
        obtain ⟨Ao26, co26, eo26⟩ := Kd.R_slice HO549.out
        subst eo26
        go_wp2
        go_meet
        case rel => exact ⟨_, (true), (by xrs_), H', ⟨by have := HJ3.out; first | omega | exact Nat.le_refl _⟩, ⟨by xkR_; exact HO549.out⟩, ⟨by xkb_; exact BK543.out⟩, ⟨by xkb_; exact BK544.out⟩, ⟨by repeat (first | (with_reducible first | exact HB.out | apply below_alloc | apply pw_below_drewN | apply below_drew1 | refine below_set ?_ GE543.out | refine below_set ?_ GE544.out) | exact HB.out)⟩⟩
       ·rw [if_neg c25] at H
        have c25b0 : decide ((t547.length : Int) < 11) = false := decide_eq_false c25
        have c25b1 : decide (t547.length < 11) = false := decide_eq_false (by omega)
        clear c25
        (first | rw [c25b0] | (simp only [i64_w, i32_w]; rw [c25b0]) | skip)
        replace H := Option.bind_eq_some_iff.mp H
        obtain ⟨t551, A270, H⟩ := H
        replace H : (caesuralaw06_TableBack.j1 kj3 l1 t547 ((t547.length : Int) != t551) a0_0 l0_1 l0_2 l0_3 a2_0 a2_1) = some r := H
        have A27 := Aside0.mk A270
        clear A270
        have H' := Aside0.mk H
        clear H
        obtain ⟨Ao28, co28, eo28⟩ := Kd.R_slice HO549.out
        subst eo28
        have hnb29 := NB543_544.out
        have hnc29 := NB544_543.out
        have hcz30_0 : w22.cell? ⟨gb543, 0, none⟩ = some (.int .i64 a0_0) := (blk_cell BK543.out 0).trans rfl
        have hcz30_1 : w22.cell? ⟨gb543, 1, none⟩ = some (.slice A0_1 l0_1.length c0_1) := (blk_cell BK543.out 1).trans rfl
        have hcz30_2 : w22.cell? ⟨gb543, 2, none⟩ = some (.slice A0_2 l0_2.length c0_2) := (blk_cell BK543.out 2).trans rfl
        have hcz30_3 : w22.cell? ⟨gb543, 3, none⟩ = some (.slice A0_3 l0_3.length c0_3) := (blk_cell BK543.out 3).trans rfl
        have hfz30_0 := blk_frozen BK543.out 0
        have hfz30_1 := blk_frozen BK543.out 1
        have hfz30_2 := blk_frozen BK543.out 2
        have hfz30_3 := blk_frozen BK543.out 3
        go_wp2_with (first | (go_at_call 19; (with_reducible refine (table_Length.calls a0_0 (l0_2.length : Int) (l0_1.length : Int) t551 _ A27.out).mono ?_); rintro e w' ⟨rfl, ⟨nd, rfl⟩⟩))
        go_meet
        case rel => exact ⟨_, (((t547.length : Int) != t551)), (by xrs_), H', ⟨by have := HJ3.out; first | omega | exact Nat.le_refl _⟩, ⟨by xkR_; exact HO549.out⟩, ⟨by xkb_; exact BK543.out⟩, ⟨by xkb_; exact BK544.out⟩, ⟨by repeat (first | (with_reducible first | exact HB.out | apply below_alloc | apply pw_below_drewN | apply below_drew1 | refine below_set ?_ GE543.out | refine below_set ?_ GE544.out) | exact HB.out)⟩⟩
      case rest =>
       clear HC24
       xcl_ c1 c2 p2 c4 c8 c9 c10 c12 c15 c20 c23 c25 c25b0 c25b1 c29 hcz10_0 hcz10_1 hcz10_2 hcz10_3 hcz13_0 hcz13_1 hcz13_2 hcz13_3 hcz21_0 hcz21_1 hcz21_2 hcz21_3 hcz30_0 hcz30_1 hcz30_2 hcz30_3 hfz10_0 hfz10_1 hfz10_2 hfz10_3 hfz13_0 hfz13_1 hfz13_2 hfz13_3 hfz21_0 hfz21_1 hfz21_2 hfz21_3 hfz30_0 hfz30_1 hfz30_2 hfz30_3 p2
       obtain ⟨kq, x49_23, rfl, HA, HJ23, HO_7, BK543, BK544, HB⟩ := hcut
       cases kq with
       | zero => exact absurd HA.out (by simp [caesuralaw06_TableBack.j1])
       | succ kj23 =>
        have H := HA.out
        clear HA
        simp only [caesuralaw06_TableBack.j1] at H
        by_cases c31 : x49_23 = true
        ·subst c31
         have H1 : (none) = some r := by rw [if_pos rfl] at H; exact H
         clear H
         have H := H1
         clear H1
         exact absurd H (by simp)
        ·replace c31 := Bool.eq_false_iff.mpr c31
         subst c31
         have H1 : ((table_Decode.f kj23 t547).bind fun bt552 => (if a0_0 ≤ 8 then (if (l0_2.length : Int) ≤ 5 then (if (l0_1.length : Int) ≥ 1 then (caesuralaw06_TableBack.j2 kj23 l1 t547 bt552.2.2.2.2 (decide ((l0_1.length : Int) ≤ 60)) a0_0 l0_1 l0_2 l0_3 a2_0 a2_1 bt552.1 bt552.2.1 bt552.2.2.1 bt552.2.2.2.1) else (caesuralaw06_TableBack.j2 kj23 l1 t547 bt552.2.2.2.2 false a0_0 l0_1 l0_2 l0_3 a2_0 a2_1 bt552.1 bt552.2.1 bt552.2.2.1 bt552.2.2.2.1)) else (caesuralaw06_TableBack.j2 kj23 l1 t547 bt552.2.2.2.2 false a0_0 l0_1 l0_2 l0_3 a2_0 a2_1 bt552.1 bt552.2.1 bt552.2.2.1 bt552.2.2.2.1)) else (caesuralaw06_TableBack.j2 kj23 l1 t547 bt552.2.2.2.2 false a0_0 l0_1 l0_2 l0_3 a2_0 a2_1 bt552.1 bt552.2.1 bt552.2.2.1 bt552.2.2.2.1))) = some r := by rw [if_neg (show ¬ (false = true) by decide)] at H; exact H
         clear H
         have H := H1
         clear H1
         replace H := Option.bind_eq_some_iff.mp H
         obtain ⟨⟨t552, t553, t556, t559, t562⟩, A320, H⟩ := H
         replace H : (if a0_0 ≤ 8 then (if (l0_2.length : Int) ≤ 5 then (if (l0_1.length : Int) ≥ 1 then (caesuralaw06_TableBack.j2 kj23 l1 t547 t562 (decide ((l0_1.length : Int) ≤ 60)) a0_0 l0_1 l0_2 l0_3 a2_0 a2_1 t552 t553 t556 t559) else (caesuralaw06_TableBack.j2 kj23 l1 t547 t562 false a0_0 l0_1 l0_2 l0_3 a2_0 a2_1 t552 t553 t556 t559)) else (caesuralaw06_TableBack.j2 kj23 l1 t547 t562 false a0_0 l0_1 l0_2 l0_3 a2_0 a2_1 t552 t553 t556 t559)) else (caesuralaw06_TableBack.j2 kj23 l1 t547 t562 false a0_0 l0_1 l0_2 l0_3 a2_0 a2_1 t552 t553 t556 t559)) = some r := H
         have A32 := Aside0.mk A320
         clear A320
         have HC33 := Aside0.mk H
         clear H
         obtain ⟨Ao34, co34, eo34⟩ := Kd.R_slice HO_7.out
         subst eo34
         go_upto_region 8 with (first | ((with_reducible refine gate_callee (f := 14) rfl ?_); refine goesL_ (some 52) rfl rfl Try.func14 (by kernel_rfl) rfl #[.slice Ao34 t547.length co34] rfl (by xlm_) ?_; (with_reducible refine (table_Decode.calls kj23 _ _ t547 t552 t553 t556 t559 t562 _ ?side1 ?side2 A32.out).mono ?_); (case side1 => repeat (first | exact (Kd.R_reads' HO_7.out).2.2 | xkC_)); (case side2 => exact (Kd.R_reads' HO_7.out).2.1); rintro e w35 ⟨v554, v557, v560, rfl, ho0, ho1, ho2, hb⟩; refine ⟨_, rfl, ?_⟩; have n0_ := Aside0.mk (Kd.R_below (by xkR_; exact HO_7.out) hb); have n1_ := Aside0.mk (Kd.R_lower ho0 (below_size (by repeat (first | (with_reducible first | exact HB.out | apply below_alloc | apply pw_below_drewN | apply below_drew1 | refine below_set ?_ GE543.out | refine below_set ?_ GE544.out) | exact HB.out)))); have n2_ := Aside0.mk (Kd.S_lower ho1 (below_size (by repeat (first | (with_reducible first | exact HB.out | apply below_alloc | apply pw_below_drewN | apply below_drew1 | refine below_set ?_ GE543.out | refine below_set ?_ GE544.out) | exact HB.out)))); have n3_ := Aside0.mk (Kd.R_lower ho2 (below_size (by repeat (first | (with_reducible first | exact HB.out | apply below_alloc | apply pw_below_drewN | apply below_drew1 | refine below_set ?_ GE543.out | refine below_set ?_ GE544.out) | exact HB.out)))); have n4_ := Aside0.mk (blk_below (g := gb543) (o := .cells #[.int .i64 a0_0, .slice A0_1 l0_1.length c0_1, .slice A0_2 l0_2.length c0_2, .slice A0_3 l0_3.length c0_3] 26 (0, 0)) (by xkb_; exact BK543.out) hb); have n5_ := Aside0.mk (blk_below (g := gb544) (o := .cells #[.int .u16 a2_0, .int .u16 a2_1] 44 (0, 0)) (by xkb_; exact BK544.out) hb); have n6_ := Aside0.mk (below_step (by repeat (first | (with_reducible first | exact HB.out | apply below_alloc | apply pw_below_drewN | apply below_drew1 | refine below_set ?_ GE543.out | refine below_set ?_ GE544.out) | exact HB.out)) hb); clear HO_7; clear BK543; clear BK544; clear HB; have HO_7 := n0_; have HO555 := n1_; have HO558 := n2_; have HO561 := n3_; have BK543 := n4_; have BK544 := n5_; have HB := n6_; clear n0_ n1_ n2_ n3_ n4_ n5_ n6_; (try clear hb); (try clear hb2); (try clear hk); (try clear hi); (try clear ho0); (try clear ho1); (try clear ho2)) | ((with_reducible refine gate_dst (N := 9) rfl ?_); xgg_; refine box_event ?hg (N := 9) ?hd (cs := #[.int .i64 0, .slice none 0 0, .slice none 0 0, .slice none 0 0]) (t := 26) ?hr ?_; (case hd => rfl); (case hg => rfl); (case hr => xgs_); intro gb563 hg w36 hbox hb; have n0_ := Aside0.mk (Kd.R_below (by xkR_; exact HO_7.out) hb); have n1_ := Aside0.mk (Kd.R_below (by xkR_; exact HO555.out) hb); have n2_ := Aside0.mk (Kd.S_below (by xkS_; exact HO558.out) hb); have n3_ := Aside0.mk (Kd.R_below (by xkR_; exact HO561.out) hb); have n4_ := Aside0.mk (blk_below (g := gb543) (o := .cells #[.int .i64 a0_0, .slice A0_1 l0_1.length c0_1, .slice A0_2 l0_2.length c0_2, .slice A0_3 l0_3.length c0_3] 26 (0, 0)) (by xkb_; exact BK543.out) hb); have n5_ := Aside0.mk (blk_below (g := gb544) (o := .cells #[.int .u16 a2_0, .int .u16 a2_1] 44 (0, 0)) (by xkb_; exact BK544.out) hb); have n6_ := Aside0.mk (below_step (by repeat (first | (with_reducible first | exact HB.out | apply below_alloc | apply pw_below_drewN | apply below_drew1 | refine below_set ?_ GE543.out | refine below_set ?_ GE544.out) | exact HB.out)) hb); have n7_ := Aside0.mk (hbox); have n8_ := Aside0.mk ((by rw [hg]; exact (below_size (by repeat (first | (with_reducible first | exact HB.out | apply below_alloc | apply pw_below_drewN | apply below_drew1 | refine below_set ?_ GE543.out | refine below_set ?_ GE544.out) | exact HB.out))) : w.heap.size ≤ gb563)); have n9_ := Aside0.mk ((by rw [hg]; exact (below_size (by repeat (first | (with_reducible first | exact HB.out | apply below_alloc | apply pw_below_drewN | apply below_drew1 | refine below_set ?_ GE543.out | refine below_set ?_ GE544.out) | exact HB.out))) : w.heap.size ≤ gb563)); have n10_ := Aside0.mk ((by rw [hg]; exact Nat.ne_of_lt (blk_lt (g := gb543) (o := .cells #[.int .i64 a0_0, .slice A0_1 l0_1.length c0_1, .slice A0_2 l0_2.length c0_2, .slice A0_3 l0_3.length c0_3] 26 (0, 0)) (by xkb_; exact BK543.out)) : gb543 ≠ gb563)); have n11_ := Aside0.mk ((by rw [hg]; exact Nat.ne_of_gt (blk_lt (g := gb543) (o := .cells #[.int .i64 a0_0, .slice A0_1 l0_1.length c0_1, .slice A0_2 l0_2.length c0_2, .slice A0_3 l0_3.length c0_3] 26 (0, 0)) (by xkb_; exact BK543.out)) : gb563 ≠ gb543)); have n12_ := Aside0.mk ((by rw [hg]; exact Nat.ne_of_lt (blk_lt (g := gb544) (o := .cells #[.int .u16 a2_0, .int .u16 a2_1] 44 (0, 0)) (by xkb_; exact BK544.out)) : gb544 ≠ gb563)); have n13_ := Aside0.mk ((by rw [hg]; exact Nat.ne_of_gt (blk_lt (g := gb544) (o := .cells #[.int .u16 a2_0, .int .u16 a2_1] 44 (0, 0)) (by xkb_; exact BK544.out)) : gb563 ≠ gb544)); clear HO_7; clear HO555; clear HO558; clear HO561; clear BK543; clear BK544; clear HB; have HO_7 := n0_; have HO555 := n1_; have HO558 := n2_; have HO561 := n3_; have BK543 := n4_; have BK544 := n5_; have HB := n6_; have BK563 := n7_; have GW563 := n8_; have GE563 := n9_; have NB543_563 := n10_; have NB563_543 := n11_; have NB544_563 := n12_; have NB563_544 := n13_; clear n0_ n1_ n2_ n3_ n4_ n5_ n6_ n7_ n8_ n9_ n10_ n11_ n12_ n13_; clear hb hbox hg; have hnb37 := NB563_543.out; have hnc37 := NB543_563.out; have hnb38 := NB563_544.out; have hnc38 := NB544_563.out; have hcz39_0 : w36.cell? ⟨gb563, 0, none⟩ = some (.int .i64 0) := (blk_cell BK563.out 0).trans rfl; have hcz39_1 : w36.cell? ⟨gb563, 1, none⟩ = some (.slice none 0 0) := (blk_cell BK563.out 1).trans rfl; have hcz39_2 : w36.cell? ⟨gb563, 2, none⟩ = some (.slice none 0 0) := (blk_cell BK563.out 2).trans rfl; have hcz39_3 : w36.cell? ⟨gb563, 3, none⟩ = some (.slice none 0 0) := (blk_cell BK563.out 3).trans rfl; have hfz39_0 := blk_frozen BK563.out 0; have hfz39_1 := blk_frozen BK563.out 1; have hfz39_2 := blk_frozen BK563.out 2; have hfz39_3 := blk_frozen BK563.out 3; obtain ⟨Ao40, co40, eo40⟩ := Kd.R_slice HO555.out; subst eo40; obtain ⟨Ao41, co41, eo41⟩ := Kd.S_slice HO558.out; subst eo41; obtain ⟨Ao42, co42, eo42⟩ := Kd.R_slice HO561.out; subst eo42))
         (try simp only [Act.put, List.setIfInBounds_toArray, List.set_cons_zero, List.set_cons_succ])
         go_cut [11] (fun v11 wc => ∃ (kq : Nat) (x11_32 : Bool), v11 = .bool x11_32 ∧ Aside0 (caesuralaw06_TableBack.j2 kq l1 t547 t562 x11_32 a0_0 l0_1 l0_2 l0_3 a2_0 a2_1 t552 t553 t556 t559 = some r) ∧ Aside0 (kq ≤ kj23) ∧ Aside0 (Kd.R (Kd.int .u8) 5 wc w.heap.size (fun _ => True) (.slice Ao34 t547.length co34) t547) ∧ Aside0 (Kd.R k52 52 wc w.heap.size (fun _ => True) (.slice Ao40 t553.length co40) t553) ∧ Aside0 (Kd.S (Kd.slice 3 (Kd.int .i64)) 53 wc w.heap.size (fun _ => True) (.slice Ao41 t556.length co41) t556) ∧ Aside0 (Kd.R Kd.bool 4 wc w.heap.size (fun _ => True) (.slice Ao42 t559.length co42) t559) ∧ Aside0 (wc.heap[gb543]? = some (.cells #[.int .i64 a0_0, (.slice A0_1 l0_1.length c0_1), (.slice A0_2 l0_2.length c0_2), (.slice A0_3 l0_3.length c0_3)] 26 (0, 0))) ∧ Aside0 (wc.heap[gb544]? = some (.cells #[.int .u16 a2_0, .int .u16 a2_1] 44 (0, 0))) ∧ Aside0 (wc.heap[gb563]? = some (.cells #[.int .i64 t552, (.slice Ao40 t553.length co40), (.slice Ao41 t556.length co41), (.slice Ao42 t559.length co42)] 26 (0, 0))) ∧ Aside0 (Below w.heap.size w wc))
         case first =>
          have H := HC33.out
          clear HC33
          by_cases c43 : a0_0 ≤ 8
          ·rw [if_pos c43] at H
           have c43b0 : decide (a0_0 ≤ 8) = true := decide_eq_true c43
           clear c43
           (first | rw [c43b0] | (simp only [i64_w, i32_w]; rw [c43b0]) | skip)
           by_cases c44 : (l0_2.length : Int) ≤ 5
           ·rw [if_pos c44] at H
            have c44b0 : decide ((l0_2.length : Int) ≤ 5) = true := decide_eq_true c44
            have c44b1 : decide (l0_2.length ≤ 5) = true := decide_eq_true (by omega)
            clear c44
            by_cases c45 : (l0_1.length : Int) ≥ 1
            ·rw [if_pos c45] at H
             have c45b0 : decide (1 ≤ (l0_1.length : Int)) = true := decide_eq_true c45
             have c45b1 : decide (1 ≤ l0_1.length) = true := decide_eq_true (by omega)
             clear c45
             have H' := Aside0.mk H
             clear H
             have hnb46 := NB543_544.out
             have hnc46 := NB544_543.out
             have hnb47 := NB543_563.out
             have hnc47 := NB563_543.out
             have hcz48_0 : w36.cell? ⟨gb543, 0, none⟩ = some (.int .i64 a0_0) := (blk_cell BK543.out 0).trans rfl
             have hcz48_1 : w36.cell? ⟨gb543, 1, none⟩ = some (.slice A0_1 l0_1.length c0_1) := (blk_cell BK543.out 1).trans rfl
             have hcz48_2 : w36.cell? ⟨gb543, 2, none⟩ = some (.slice A0_2 l0_2.length c0_2) := (blk_cell BK543.out 2).trans rfl
             have hcz48_3 : w36.cell? ⟨gb543, 3, none⟩ = some (.slice A0_3 l0_3.length c0_3) := (blk_cell BK543.out 3).trans rfl
             have hfz48_0 := blk_frozen BK543.out 0
             have hfz48_1 := blk_frozen BK543.out 1
             have hfz48_2 := blk_frozen BK543.out 2
             have hfz48_3 := blk_frozen BK543.out 3
             go_wp2
             go_meet
             case rel => exact ⟨_, (decide ((l0_1.length : Int) ≤ 60)), (by xrs_), H', ⟨by have := HJ3.out; have := HJ23.out; first | omega | exact Nat.le_refl _⟩, ⟨by xkR_; exact Kd.R_mono (Kd.R_far (p := ⟨gb563, 3, none⟩) (Kd.R_far (p := ⟨gb563, 2, none⟩) (Kd.R_far (p := ⟨gb563, 1, none⟩) (Kd.R_far (p := ⟨gb563, 0, none⟩) (Kd.R_types HO_7.out BK563.out (by decide)) (fun _ hk => hk.2) (.int .i64 t552)) (fun _ hk => hk.2) (.slice Ao40 t553.length co40)) (fun _ hk => hk.2) (.slice Ao41 t556.length co41)) (fun _ hk => hk.2) (.slice Ao42 t559.length co42)) (fun _ hk => trivial)⟩, ⟨by xkR_; exact Kd.R_mono (Kd.R_far (p := ⟨gb563, 3, none⟩) (Kd.R_far (p := ⟨gb563, 2, none⟩) (Kd.R_far (p := ⟨gb563, 1, none⟩) (Kd.R_far (p := ⟨gb563, 0, none⟩) (Kd.R_types HO555.out BK563.out (by decide)) (fun _ hk => hk.2) (.int .i64 t552)) (fun _ hk => hk.2) (.slice Ao40 t553.length co40)) (fun _ hk => hk.2) (.slice Ao41 t556.length co41)) (fun _ hk => hk.2) (.slice Ao42 t559.length co42)) (fun _ hk => trivial)⟩, ⟨by xkS_; exact Kd.S_mono (Kd.S_far (p := ⟨gb563, 3, none⟩) (Kd.S_far (p := ⟨gb563, 2, none⟩) (Kd.S_far (p := ⟨gb563, 1, none⟩) (Kd.S_far (p := ⟨gb563, 0, none⟩) (Kd.S_types HO558.out BK563.out (by decide)) (fun _ hk => hk.2) (.int .i64 t552)) (fun _ hk => hk.2) (.slice Ao40 t553.length co40)) (fun _ hk => hk.2) (.slice Ao41 t556.length co41)) (fun _ hk => hk.2) (.slice Ao42 t559.length co42)) (fun _ hk => trivial)⟩, ⟨by xkR_; exact Kd.R_mono (Kd.R_far (p := ⟨gb563, 3, none⟩) (Kd.R_far (p := ⟨gb563, 2, none⟩) (Kd.R_far (p := ⟨gb563, 1, none⟩) (Kd.R_far (p := ⟨gb563, 0, none⟩) (Kd.R_types HO561.out BK563.out (by decide)) (fun _ hk => hk.2) (.int .i64 t552)) (fun _ hk => hk.2) (.slice Ao40 t553.length co40)) (fun _ hk => hk.2) (.slice Ao41 t556.length co41)) (fun _ hk => hk.2) (.slice Ao42 t559.length co42)) (fun _ hk => trivial)⟩, ⟨by xkb_; refine blk_far ?_ NB543_563.out _; xkb_; refine blk_far ?_ NB543_563.out _; xkb_; refine blk_far ?_ NB543_563.out _; xkb_; refine blk_far ?_ NB543_563.out _; xkb_; exact BK543.out⟩, ⟨by xkb_; refine blk_far ?_ NB544_563.out _; xkb_; refine blk_far ?_ NB544_563.out _; xkb_; refine blk_far ?_ NB544_563.out _; xkb_; refine blk_far ?_ NB544_563.out _; xkb_; exact BK544.out⟩, ⟨by xkb_; refine blk_put (cs := #[.int .i64 t552, .slice Ao40 t553.length co40, .slice Ao41 t556.length co41, .slice none 0 0]) ?_ 3 _ rfl; xkb_; refine blk_put (cs := #[.int .i64 t552, .slice Ao40 t553.length co40, .slice none 0 0, .slice none 0 0]) ?_ 2 _ rfl; xkb_; refine blk_put (cs := #[.int .i64 t552, .slice none 0 0, .slice none 0 0, .slice none 0 0]) ?_ 1 _ rfl; xkb_; refine blk_put (cs := #[.int .i64 0, .slice none 0 0, .slice none 0 0, .slice none 0 0]) ?_ 0 _ rfl; xkb_; exact BK563.out⟩, ⟨by repeat (first | (with_reducible first | exact HB.out | apply below_alloc | apply pw_below_drewN | apply below_drew1 | refine below_set ?_ GE543.out | refine below_set ?_ GE544.out | refine below_set ?_ GE563.out) | exact HB.out)⟩⟩
            ·rw [if_neg c45] at H
             have c45b0 : decide (1 ≤ (l0_1.length : Int)) = false := decide_eq_false c45
             have c45b1 : decide (1 ≤ l0_1.length) = false := decide_eq_false (by omega)
             clear c45
             have H' := Aside0.mk H
             clear H
             have hnb49 := NB543_544.out
             have hnc49 := NB544_543.out
             have hnb50 := NB543_563.out
             have hnc50 := NB563_543.out
             have hcz51_0 : w36.cell? ⟨gb543, 0, none⟩ = some (.int .i64 a0_0) := (blk_cell BK543.out 0).trans rfl
             have hcz51_1 : w36.cell? ⟨gb543, 1, none⟩ = some (.slice A0_1 l0_1.length c0_1) := (blk_cell BK543.out 1).trans rfl
             have hcz51_2 : w36.cell? ⟨gb543, 2, none⟩ = some (.slice A0_2 l0_2.length c0_2) := (blk_cell BK543.out 2).trans rfl
             have hcz51_3 : w36.cell? ⟨gb543, 3, none⟩ = some (.slice A0_3 l0_3.length c0_3) := (blk_cell BK543.out 3).trans rfl
             have hfz51_0 := blk_frozen BK543.out 0
             have hfz51_1 := blk_frozen BK543.out 1
             have hfz51_2 := blk_frozen BK543.out 2
             have hfz51_3 := blk_frozen BK543.out 3
             go_wp2
             go_meet
             case rel => exact ⟨_, (false), (by xrs_), H', ⟨by have := HJ3.out; have := HJ23.out; first | omega | exact Nat.le_refl _⟩, ⟨by xkR_; exact Kd.R_mono (Kd.R_far (p := ⟨gb563, 3, none⟩) (Kd.R_far (p := ⟨gb563, 2, none⟩) (Kd.R_far (p := ⟨gb563, 1, none⟩) (Kd.R_far (p := ⟨gb563, 0, none⟩) (Kd.R_types HO_7.out BK563.out (by decide)) (fun _ hk => hk.2) (.int .i64 t552)) (fun _ hk => hk.2) (.slice Ao40 t553.length co40)) (fun _ hk => hk.2) (.slice Ao41 t556.length co41)) (fun _ hk => hk.2) (.slice Ao42 t559.length co42)) (fun _ hk => trivial)⟩, ⟨by xkR_; exact Kd.R_mono (Kd.R_far (p := ⟨gb563, 3, none⟩) (Kd.R_far (p := ⟨gb563, 2, none⟩) (Kd.R_far (p := ⟨gb563, 1, none⟩) (Kd.R_far (p := ⟨gb563, 0, none⟩) (Kd.R_types HO555.out BK563.out (by decide)) (fun _ hk => hk.2) (.int .i64 t552)) (fun _ hk => hk.2) (.slice Ao40 t553.length co40)) (fun _ hk => hk.2) (.slice Ao41 t556.length co41)) (fun _ hk => hk.2) (.slice Ao42 t559.length co42)) (fun _ hk => trivial)⟩, ⟨by xkS_; exact Kd.S_mono (Kd.S_far (p := ⟨gb563, 3, none⟩) (Kd.S_far (p := ⟨gb563, 2, none⟩) (Kd.S_far (p := ⟨gb563, 1, none⟩) (Kd.S_far (p := ⟨gb563, 0, none⟩) (Kd.S_types HO558.out BK563.out (by decide)) (fun _ hk => hk.2) (.int .i64 t552)) (fun _ hk => hk.2) (.slice Ao40 t553.length co40)) (fun _ hk => hk.2) (.slice Ao41 t556.length co41)) (fun _ hk => hk.2) (.slice Ao42 t559.length co42)) (fun _ hk => trivial)⟩, ⟨by xkR_; exact Kd.R_mono (Kd.R_far (p := ⟨gb563, 3, none⟩) (Kd.R_far (p := ⟨gb563, 2, none⟩) (Kd.R_far (p := ⟨gb563, 1, none⟩) (Kd.R_far (p := ⟨gb563, 0, none⟩) (Kd.R_types HO561.out BK563.out (by decide)) (fun _ hk => hk.2) (.int .i64 t552)) (fun _ hk => hk.2) (.slice Ao40 t553.length co40)) (fun _ hk => hk.2) (.slice Ao41 t556.length co41)) (fun _ hk => hk.2) (.slice Ao42 t559.length co42)) (fun _ hk => trivial)⟩, ⟨by xkb_; refine blk_far ?_ NB543_563.out _; xkb_; refine blk_far ?_ NB543_563.out _; xkb_; refine blk_far ?_ NB543_563.out _; xkb_; refine blk_far ?_ NB543_563.out _; xkb_; exact BK543.out⟩, ⟨by xkb_; refine blk_far ?_ NB544_563.out _; xkb_; refine blk_far ?_ NB544_563.out _; xkb_; refine blk_far ?_ NB544_563.out _; xkb_; refine blk_far ?_ NB544_563.out _; xkb_; exact BK544.out⟩, ⟨by xkb_; refine blk_put (cs := #[.int .i64 t552, .slice Ao40 t553.length co40, .slice Ao41 t556.length co41, .slice none 0 0]) ?_ 3 _ rfl; xkb_; refine blk_put (cs := #[.int .i64 t552, .slice Ao40 t553.length co40, .slice none 0 0, .slice none 0 0]) ?_ 2 _ rfl; xkb_; refine blk_put (cs := #[.int .i64 t552, .slice none 0 0, .slice none 0 0, .slice none 0 0]) ?_ 1 _ rfl; xkb_; refine blk_put (cs := #[.int .i64 0, .slice none 0 0, .slice none 0 0, .slice none 0 0]) ?_ 0 _ rfl; xkb_; exact BK563.out⟩, ⟨by repeat (first | (with_reducible first | exact HB.out | apply below_alloc | apply pw_below_drewN | apply below_drew1 | refine below_set ?_ GE543.out | refine below_set ?_ GE544.out | refine below_set ?_ GE563.out) | exact HB.out)⟩⟩
           ·rw [if_neg c44] at H
            have c44b0 : decide ((l0_2.length : Int) ≤ 5) = false := decide_eq_false c44
            have c44b1 : decide (l0_2.length ≤ 5) = false := decide_eq_false (by omega)
            clear c44
            have H' := Aside0.mk H
            clear H
            have hnb52 := NB543_544.out
            have hnc52 := NB544_543.out
            have hnb53 := NB543_563.out
            have hnc53 := NB563_543.out
            have hcz54_0 : w36.cell? ⟨gb543, 0, none⟩ = some (.int .i64 a0_0) := (blk_cell BK543.out 0).trans rfl
            have hcz54_1 : w36.cell? ⟨gb543, 1, none⟩ = some (.slice A0_1 l0_1.length c0_1) := (blk_cell BK543.out 1).trans rfl
            have hcz54_2 : w36.cell? ⟨gb543, 2, none⟩ = some (.slice A0_2 l0_2.length c0_2) := (blk_cell BK543.out 2).trans rfl
            have hcz54_3 : w36.cell? ⟨gb543, 3, none⟩ = some (.slice A0_3 l0_3.length c0_3) := (blk_cell BK543.out 3).trans rfl
            have hfz54_0 := blk_frozen BK543.out 0
            have hfz54_1 := blk_frozen BK543.out 1
            have hfz54_2 := blk_frozen BK543.out 2
            have hfz54_3 := blk_frozen BK543.out 3
            go_wp2
            go_meet
            case rel => exact ⟨_, (false), (by xrs_), H', ⟨by have := HJ3.out; have := HJ23.out; first | omega | exact Nat.le_refl _⟩, ⟨by xkR_; exact Kd.R_mono (Kd.R_far (p := ⟨gb563, 3, none⟩) (Kd.R_far (p := ⟨gb563, 2, none⟩) (Kd.R_far (p := ⟨gb563, 1, none⟩) (Kd.R_far (p := ⟨gb563, 0, none⟩) (Kd.R_types HO_7.out BK563.out (by decide)) (fun _ hk => hk.2) (.int .i64 t552)) (fun _ hk => hk.2) (.slice Ao40 t553.length co40)) (fun _ hk => hk.2) (.slice Ao41 t556.length co41)) (fun _ hk => hk.2) (.slice Ao42 t559.length co42)) (fun _ hk => trivial)⟩, ⟨by xkR_; exact Kd.R_mono (Kd.R_far (p := ⟨gb563, 3, none⟩) (Kd.R_far (p := ⟨gb563, 2, none⟩) (Kd.R_far (p := ⟨gb563, 1, none⟩) (Kd.R_far (p := ⟨gb563, 0, none⟩) (Kd.R_types HO555.out BK563.out (by decide)) (fun _ hk => hk.2) (.int .i64 t552)) (fun _ hk => hk.2) (.slice Ao40 t553.length co40)) (fun _ hk => hk.2) (.slice Ao41 t556.length co41)) (fun _ hk => hk.2) (.slice Ao42 t559.length co42)) (fun _ hk => trivial)⟩, ⟨by xkS_; exact Kd.S_mono (Kd.S_far (p := ⟨gb563, 3, none⟩) (Kd.S_far (p := ⟨gb563, 2, none⟩) (Kd.S_far (p := ⟨gb563, 1, none⟩) (Kd.S_far (p := ⟨gb563, 0, none⟩) (Kd.S_types HO558.out BK563.out (by decide)) (fun _ hk => hk.2) (.int .i64 t552)) (fun _ hk => hk.2) (.slice Ao40 t553.length co40)) (fun _ hk => hk.2) (.slice Ao41 t556.length co41)) (fun _ hk => hk.2) (.slice Ao42 t559.length co42)) (fun _ hk => trivial)⟩, ⟨by xkR_; exact Kd.R_mono (Kd.R_far (p := ⟨gb563, 3, none⟩) (Kd.R_far (p := ⟨gb563, 2, none⟩) (Kd.R_far (p := ⟨gb563, 1, none⟩) (Kd.R_far (p := ⟨gb563, 0, none⟩) (Kd.R_types HO561.out BK563.out (by decide)) (fun _ hk => hk.2) (.int .i64 t552)) (fun _ hk => hk.2) (.slice Ao40 t553.length co40)) (fun _ hk => hk.2) (.slice Ao41 t556.length co41)) (fun _ hk => hk.2) (.slice Ao42 t559.length co42)) (fun _ hk => trivial)⟩, ⟨by xkb_; refine blk_far ?_ NB543_563.out _; xkb_; refine blk_far ?_ NB543_563.out _; xkb_; refine blk_far ?_ NB543_563.out _; xkb_; refine blk_far ?_ NB543_563.out _; xkb_; exact BK543.out⟩, ⟨by xkb_; refine blk_far ?_ NB544_563.out _; xkb_; refine blk_far ?_ NB544_563.out _; xkb_; refine blk_far ?_ NB544_563.out _; xkb_; refine blk_far ?_ NB544_563.out _; xkb_; exact BK544.out⟩, ⟨by xkb_; refine blk_put (cs := #[.int .i64 t552, .slice Ao40 t553.length co40, .slice Ao41 t556.length co41, .slice none 0 0]) ?_ 3 _ rfl; xkb_; refine blk_put (cs := #[.int .i64 t552, .slice Ao40 t553.length co40, .slice none 0 0, .slice none 0 0]) ?_ 2 _ rfl; xkb_; refine blk_put (cs := #[.int .i64 t552, .slice none 0 0, .slice none 0 0, .slice none 0 0]) ?_ 1 _ rfl; xkb_; refine blk_put (cs := #[.int .i64 0, .slice none 0 0, .slice none 0 0, .slice none 0 0]) ?_ 0 _ rfl; xkb_; exact BK563.out⟩, ⟨by repeat (first | (with_reducible first | exact HB.out | apply below_alloc | apply pw_below_drewN | apply below_drew1 | refine below_set ?_ GE543.out | refine below_set ?_ GE544.out | refine below_set ?_ GE563.out) | exact HB.out)⟩⟩
          ·rw [if_neg c43] at H
           have c43b0 : decide (a0_0 ≤ 8) = false := decide_eq_false c43
           clear c43
           (first | rw [c43b0] | (simp only [i64_w, i32_w]; rw [c43b0]) | skip)
           have H' := Aside0.mk H
           clear H
           have hnb55 := NB543_544.out
           have hnc55 := NB544_543.out
           have hnb56 := NB543_563.out
           have hnc56 := NB563_543.out
           have hcz57_0 : w36.cell? ⟨gb543, 0, none⟩ = some (.int .i64 a0_0) := (blk_cell BK543.out 0).trans rfl
           have hcz57_1 : w36.cell? ⟨gb543, 1, none⟩ = some (.slice A0_1 l0_1.length c0_1) := (blk_cell BK543.out 1).trans rfl
           have hcz57_2 : w36.cell? ⟨gb543, 2, none⟩ = some (.slice A0_2 l0_2.length c0_2) := (blk_cell BK543.out 2).trans rfl
           have hcz57_3 : w36.cell? ⟨gb543, 3, none⟩ = some (.slice A0_3 l0_3.length c0_3) := (blk_cell BK543.out 3).trans rfl
           have hfz57_0 := blk_frozen BK543.out 0
           have hfz57_1 := blk_frozen BK543.out 1
           have hfz57_2 := blk_frozen BK543.out 2
           have hfz57_3 := blk_frozen BK543.out 3
           go_wp2
           go_meet
           case rel => exact ⟨_, (false), (by xrs_), H', ⟨by have := HJ3.out; have := HJ23.out; first | omega | exact Nat.le_refl _⟩, ⟨by xkR_; exact Kd.R_mono (Kd.R_far (p := ⟨gb563, 3, none⟩) (Kd.R_far (p := ⟨gb563, 2, none⟩) (Kd.R_far (p := ⟨gb563, 1, none⟩) (Kd.R_far (p := ⟨gb563, 0, none⟩) (Kd.R_types HO_7.out BK563.out (by decide)) (fun _ hk => hk.2) (.int .i64 t552)) (fun _ hk => hk.2) (.slice Ao40 t553.length co40)) (fun _ hk => hk.2) (.slice Ao41 t556.length co41)) (fun _ hk => hk.2) (.slice Ao42 t559.length co42)) (fun _ hk => trivial)⟩, ⟨by xkR_; exact Kd.R_mono (Kd.R_far (p := ⟨gb563, 3, none⟩) (Kd.R_far (p := ⟨gb563, 2, none⟩) (Kd.R_far (p := ⟨gb563, 1, none⟩) (Kd.R_far (p := ⟨gb563, 0, none⟩) (Kd.R_types HO555.out BK563.out (by decide)) (fun _ hk => hk.2) (.int .i64 t552)) (fun _ hk => hk.2) (.slice Ao40 t553.length co40)) (fun _ hk => hk.2) (.slice Ao41 t556.length co41)) (fun _ hk => hk.2) (.slice Ao42 t559.length co42)) (fun _ hk => trivial)⟩, ⟨by xkS_; exact Kd.S_mono (Kd.S_far (p := ⟨gb563, 3, none⟩) (Kd.S_far (p := ⟨gb563, 2, none⟩) (Kd.S_far (p := ⟨gb563, 1, none⟩) (Kd.S_far (p := ⟨gb563, 0, none⟩) (Kd.S_types HO558.out BK563.out (by decide)) (fun _ hk => hk.2) (.int .i64 t552)) (fun _ hk => hk.2) (.slice Ao40 t553.length co40)) (fun _ hk => hk.2) (.slice Ao41 t556.length co41)) (fun _ hk => hk.2) (.slice Ao42 t559.length co42)) (fun _ hk => trivial)⟩, ⟨by xkR_; exact Kd.R_mono (Kd.R_far (p := ⟨gb563, 3, none⟩) (Kd.R_far (p := ⟨gb563, 2, none⟩) (Kd.R_far (p := ⟨gb563, 1, none⟩) (Kd.R_far (p := ⟨gb563, 0, none⟩) (Kd.R_types HO561.out BK563.out (by decide)) (fun _ hk => hk.2) (.int .i64 t552)) (fun _ hk => hk.2) (.slice Ao40 t553.length co40)) (fun _ hk => hk.2) (.slice Ao41 t556.length co41)) (fun _ hk => hk.2) (.slice Ao42 t559.length co42)) (fun _ hk => trivial)⟩, ⟨by xkb_; refine blk_far ?_ NB543_563.out _; xkb_; refine blk_far ?_ NB543_563.out _; xkb_; refine blk_far ?_ NB543_563.out _; xkb_; refine blk_far ?_ NB543_563.out _; xkb_; exact BK543.out⟩, ⟨by xkb_; refine blk_far ?_ NB544_563.out _; xkb_; refine blk_far ?_ NB544_563.out _; xkb_; refine blk_far ?_ NB544_563.out _; xkb_; refine blk_far ?_ NB544_563.out _; xkb_; exact BK544.out⟩, ⟨by xkb_; refine blk_put (cs := #[.int .i64 t552, .slice Ao40 t553.length co40, .slice Ao41 t556.length co41, .slice none 0 0]) ?_ 3 _ rfl; xkb_; refine blk_put (cs := #[.int .i64 t552, .slice Ao40 t553.length co40, .slice none 0 0, .slice none 0 0]) ?_ 2 _ rfl; xkb_; refine blk_put (cs := #[.int .i64 t552, .slice none 0 0, .slice none 0 0, .slice none 0 0]) ?_ 1 _ rfl; xkb_; refine blk_put (cs := #[.int .i64 0, .slice none 0 0, .slice none 0 0, .slice none 0 0]) ?_ 0 _ rfl; xkb_; exact BK563.out⟩, ⟨by repeat (first | (with_reducible first | exact HB.out | apply below_alloc | apply pw_below_drewN | apply below_drew1 | refine below_set ?_ GE543.out | refine below_set ?_ GE544.out | refine below_set ?_ GE563.out) | exact HB.out)⟩⟩
         case rest =>
          clear HC33
          xcl_ c1 c2 p2 c3 c4 c5 c8 c9 c10 c12 c14 c15 c20 c23 c25 c25b0 c25b1 c29 c31 c37 c38 c43 c43b0 c44 c44b0 c44b1 c45 c45b0 c45b1 c46 c47 c49 c50 c52 c53 c55 c56 hcz10_0 hcz10_1 hcz10_2 hcz10_3 hcz13_0 hcz13_1 hcz13_2 hcz13_3 hcz21_0 hcz21_1 hcz21_2 hcz21_3 hcz30_0 hcz30_1 hcz30_2 hcz30_3 hcz39_0 hcz39_1 hcz39_2 hcz39_3 hcz48_0 hcz48_1 hcz48_2 hcz48_3 hcz51_0 hcz51_1 hcz51_2 hcz51_3 hcz54_0 hcz54_1 hcz54_2 hcz54_3 hcz57_0 hcz57_1 hcz57_2 hcz57_3 hfz10_0 hfz10_1 hfz10_2 hfz10_3 hfz13_0 hfz13_1 hfz13_2 hfz13_3 hfz21_0 hfz21_1 hfz21_2 hfz21_3 hfz30_0 hfz30_1 hfz30_2 hfz30_3 hfz39_0 hfz39_1 hfz39_2 hfz39_3 hfz48_0 hfz48_1 hfz48_2 hfz48_3 hfz51_0 hfz51_1 hfz51_2 hfz51_3 hfz54_0 hfz54_1 hfz54_2 hfz54_3 hfz57_0 hfz57_1 hfz57_2 hfz57_3 p2
          obtain ⟨kq, x11_32, rfl, HA, HJ32, HO_7, HO_564001, HO_564002, HO_564003, BK543, BK544, BK563, HB⟩ := hcut
          cases kq with
          | zero => exact absurd HA.out (by simp [caesuralaw06_TableBack.j2])
          | succ kj32 =>
           have H := HA.out
           clear HA
           simp only [caesuralaw06_TableBack.j2] at H
           have HC58 := Aside0.mk H
           clear H
           go_upto_region 9 with (fail)
           go_cut [96] (fun v96 wc => ∃ (kq : Nat) (x96_57 : Bool), v96 = .bool x96_57 ∧ Aside0 (caesuralaw06_TableBack.j3 kq l1 t547 x96_57 a2_0 a2_1 = some r) ∧ Aside0 (kq ≤ kj32) ∧ Aside0 (Kd.R (Kd.int .u8) 5 wc w.heap.size (fun _ => True) (.slice Ao34 t547.length co34) t547) ∧ Aside0 (Kd.R k52 52 wc w.heap.size (fun _ => True) (.slice Ao40 t553.length co40) t553) ∧ Aside0 (Kd.S (Kd.slice 3 (Kd.int .i64)) 53 wc w.heap.size (fun _ => True) (.slice Ao41 t556.length co41) t556) ∧ Aside0 (Kd.R Kd.bool 4 wc w.heap.size (fun _ => True) (.slice Ao42 t559.length co42) t559) ∧ Aside0 (wc.heap[gb543]? = some (.cells #[.int .i64 a0_0, (.slice A0_1 l0_1.length c0_1), (.slice A0_2 l0_2.length c0_2), (.slice A0_3 l0_3.length c0_3)] 26 (0, 0))) ∧ Aside0 (wc.heap[gb544]? = some (.cells #[.int .u16 a2_0, .int .u16 a2_1] 44 (0, 0))) ∧ Aside0 (wc.heap[gb563]? = some (.cells #[.int .i64 t552, (.slice Ao40 t553.length co40), (.slice Ao41 t556.length co41), (.slice Ao42 t559.length co42)] 26 (0, 0))) ∧ Aside0 (Below w.heap.size w wc))
           case first =>
            have H := HC58.out
            clear HC58
            by_cases c59 : ((t562 == 0) != x11_32) = true
            ·rw [if_pos c59] at H
             have c59b0 : ((t562 == 0) != x11_32) = true := c59
             (try (have c59b1 : decide ((t562 == 0) = x11_32) = false := by simpa using c59))
             (try (have c59b2 : ((t562 == 0) == x11_32) = false := by simpa using c59))
             (try (have c59b3 : ¬ ((t562 == 0) = x11_32) := by simpa using c59))
             clear c59
             (first | rw [c59b0] | (simp only [i64_w, i32_w]; rw [c59b0]) | skip)
             have H' := Aside0.mk H
             clear H
             go_wp2
             go_meet
             case rel => exact ⟨_, (true), (by xrs_), H', ⟨by have := HJ3.out; have := HJ23.out; have := HJ32.out; first | omega | exact Nat.le_refl _⟩, ⟨by xkR_; exact HO_7.out⟩, ⟨by xkR_; exact HO_564001.out⟩, ⟨by xkS_; exact HO_564002.out⟩, ⟨by xkR_; exact HO_564003.out⟩, ⟨by xkb_; exact BK543.out⟩, ⟨by xkb_; exact BK544.out⟩, ⟨by xkb_; exact BK563.out⟩, ⟨by repeat (first | (with_reducible first | exact HB.out | apply below_alloc | apply pw_below_drewN | apply below_drew1 | refine below_set ?_ GE543.out | refine below_set ?_ GE544.out | refine below_set ?_ GE563.out) | exact HB.out)⟩⟩
            ·rw [if_neg c59] at H
             have c59b0 : ((t562 == 0) != x11_32) = false := by simpa using c59
             (try (have c59b1 : decide ((t562 == 0) = x11_32) = true := by simpa using c59))
             (try (have c59b2 : ((t562 == 0) == x11_32) = true := by simpa using c59))
             clear c59
             (first | rw [c59b0] | (simp only [i64_w, i32_w]; rw [c59b0]) | skip)
             by_cases c60 : x11_32 = true
             ·subst c60
              have H1 : ((caesurakeep_Table.f kj32 a0_0 l0_1 l0_2 l0_3 t552 t553 t556 t559).bind fun t564 => (if t564 = true then (caesuralaw06_TableBack.j3 kj32 l1 t547 false a2_0 a2_1) else (caesuralaw06_TableBack.j3 kj32 l1 t547 true a2_0 a2_1))) = some r := by rw [if_pos rfl] at H; exact H
              clear H
              have H := H1
              clear H1
              replace H := Option.bind_eq_some_iff.mp H
              obtain ⟨t564, A610, H⟩ := H
              replace H : (if t564 = true then (caesuralaw06_TableBack.j3 kj32 l1 t547 false a2_0 a2_1) else (caesuralaw06_TableBack.j3 kj32 l1 t547 true a2_0 a2_1)) = some r := H
              have A61 := Aside0.mk A610
              clear A610
              by_cases c62 : t564 = true
              ·subst c62
               have H1 : (caesuralaw06_TableBack.j3 kj32 l1 t547 false a2_0 a2_1) = some r := by rw [if_pos rfl] at H; exact H
               clear H
               have H := H1
               clear H1
               have H' := Aside0.mk H
               clear H
               have hnb63 := NB543_544.out
               have hnc63 := NB544_543.out
               have hnb64 := NB543_563.out
               have hnc64 := NB563_543.out
               have hcz65_0 : wc.cell? ⟨gb543, 0, none⟩ = some (.int .i64 a0_0) := (blk_cell BK543.out 0).trans rfl
               have hcz65_1 : wc.cell? ⟨gb543, 1, none⟩ = some (.slice A0_1 l0_1.length c0_1) := (blk_cell BK543.out 1).trans rfl
               have hcz65_2 : wc.cell? ⟨gb543, 2, none⟩ = some (.slice A0_2 l0_2.length c0_2) := (blk_cell BK543.out 2).trans rfl
               have hcz65_3 : wc.cell? ⟨gb543, 3, none⟩ = some (.slice A0_3 l0_3.length c0_3) := (blk_cell BK543.out 3).trans rfl
               have hfz65_0 := blk_frozen BK543.out 0
               have hfz65_1 := blk_frozen BK543.out 1
               have hfz65_2 := blk_frozen BK543.out 2
               have hfz65_3 := blk_frozen BK543.out 3
               have hnb66 := NB563_544.out
               have hnc66 := NB544_563.out
               have hcz67_0 : wc.cell? ⟨gb563, 0, none⟩ = some (.int .i64 t552) := (blk_cell BK563.out 0).trans rfl
               have hcz67_1 : wc.cell? ⟨gb563, 1, none⟩ = some (.slice Ao40 t553.length co40) := (blk_cell BK563.out 1).trans rfl
               have hcz67_2 : wc.cell? ⟨gb563, 2, none⟩ = some (.slice Ao41 t556.length co41) := (blk_cell BK563.out 2).trans rfl
               have hcz67_3 : wc.cell? ⟨gb563, 3, none⟩ = some (.slice Ao42 t559.length co42) := (blk_cell BK563.out 3).trans rfl
               have hfz67_0 := blk_frozen BK563.out 0
               have hfz67_1 := blk_frozen BK563.out 1
               have hfz67_2 := blk_frozen BK563.out 2
               have hfz67_3 := blk_frozen BK563.out 3
               go_wp2_with (first | (go_at_call 17; (with_reducible refine (caesurakeep_Table.calls kj32 a0_0 _ _ l0_1 _ _ l0_2 _ _ l0_3 t552 _ _ t553 _ _ t556 _ _ t559 true _ ?side1 ?side2 ?side3 ?side4 ?side5 ?side6 ?side7 ?side8 ?side9 ?side10 ?side11 ?side12 A61.out).mono ?_); (case side1 => repeat (first | exact (Kd.C_below HR0_1.out HB.out) | xkC_)); (case side2 => exact HC0_1.out); (case side3 => repeat (first | exact (Kd.C_below HR0_2.out HB.out) | xkC_)); (case side4 => exact HC0_2.out); (case side5 => repeat (first | exact (Kd.C_below HR0_3.out HB.out) | xkC_)); (case side6 => exact HC0_3.out); (case side7 => repeat (first | exact (Kd.R_reads' HO_564001.out).2.2 | xkC_)); (case side8 => exact (Kd.R_reads' HO_564001.out).2.1); (case side9 => repeat (first | exact (Kd.S_reads' HO_564002.out).2.2 | xkC_)); (case side10 => exact (Kd.S_reads' HO_564002.out).2.1); (case side11 => repeat (first | exact (Kd.R_reads' HO_564003.out).2.2 | xkC_)); (case side12 => exact (Kd.R_reads' HO_564003.out).2.1); rintro e w68 ⟨rfl, hb⟩; have n0_ := Aside0.mk (Kd.R_below (by xkR_; exact HO_7.out) hb); have n1_ := Aside0.mk (Kd.R_below (by xkR_; exact HO_564001.out) hb); have n2_ := Aside0.mk (Kd.S_below (by xkS_; exact HO_564002.out) hb); have n3_ := Aside0.mk (Kd.R_below (by xkR_; exact HO_564003.out) hb); have n4_ := Aside0.mk (blk_below (g := gb543) (o := .cells #[.int .i64 a0_0, .slice A0_1 l0_1.length c0_1, .slice A0_2 l0_2.length c0_2, .slice A0_3 l0_3.length c0_3] 26 (0, 0)) (by xkb_; exact BK543.out) hb); have n5_ := Aside0.mk (blk_below (g := gb544) (o := .cells #[.int .u16 a2_0, .int .u16 a2_1] 44 (0, 0)) (by xkb_; exact BK544.out) hb); have n6_ := Aside0.mk (blk_below (g := gb563) (o := .cells #[.int .i64 t552, .slice Ao40 t553.length co40, .slice Ao41 t556.length co41, .slice Ao42 t559.length co42] 26 (0, 0)) (by xkb_; exact BK563.out) hb); have n7_ := Aside0.mk (below_step (by repeat (first | (with_reducible first | exact HB.out | apply below_alloc | apply pw_below_drewN | apply below_drew1 | refine below_set ?_ GE543.out | refine below_set ?_ GE544.out | refine below_set ?_ GE563.out) | exact HB.out)) hb); clear HO_7; clear HO_564001; clear HO_564002; clear HO_564003; clear BK543; clear BK544; clear BK563; clear HB; have HO_7 := n0_; have HO_564001 := n1_; have HO_564002 := n2_; have HO_564003 := n3_; have BK543 := n4_; have BK544 := n5_; have BK563 := n6_; have HB := n7_; clear n0_ n1_ n2_ n3_ n4_ n5_ n6_ n7_; (try clear hb); (try clear hb2); (try clear hk); (try clear hi)))
               go_meet
               case rel => exact ⟨_, (false), (by xrs_), H', ⟨by have := HJ3.out; have := HJ23.out; have := HJ32.out; first | omega | exact Nat.le_refl _⟩, ⟨by xkR_; exact HO_7.out⟩, ⟨by xkR_; exact HO_564001.out⟩, ⟨by xkS_; exact HO_564002.out⟩, ⟨by xkR_; exact HO_564003.out⟩, ⟨by xkb_; exact BK543.out⟩, ⟨by xkb_; exact BK544.out⟩, ⟨by xkb_; exact BK563.out⟩, ⟨by repeat (first | (with_reducible first | exact HB.out | apply below_alloc | apply pw_below_drewN | apply below_drew1 | refine below_set ?_ GE543.out | refine below_set ?_ GE544.out | refine below_set ?_ GE563.out) | exact HB.out)⟩⟩
              ·replace c62 := Bool.eq_false_iff.mpr c62
               subst c62
               have H1 : (caesuralaw06_TableBack.j3 kj32 l1 t547 true a2_0 a2_1) = some r := by rw [if_neg (show ¬ (false = true) by decide)] at H; exact H
               clear H
               have H := H1
               clear H1
               have H' := Aside0.mk H
               clear H
               have hnb69 := NB543_544.out
               have hnc69 := NB544_543.out
               have hnb70 := NB543_563.out
               have hnc70 := NB563_543.out
               have hcz71_0 : wc.cell? ⟨gb543, 0, none⟩ = some (.int .i64 a0_0) := (blk_cell BK543.out 0).trans rfl
               have hcz71_1 : wc.cell? ⟨gb543, 1, none⟩ = some (.slice A0_1 l0_1.length c0_1) := (blk_cell BK543.out 1).trans rfl
               have hcz71_2 : wc.cell? ⟨gb543, 2, none⟩ = some (.slice A0_2 l0_2.length c0_2) := (blk_cell BK543.out 2).trans rfl
               have hcz71_3 : wc.cell? ⟨gb543, 3, none⟩ = some (.slice A0_3 l0_3.length c0_3) := (blk_cell BK543.out 3).trans rfl
               have hfz71_0 := blk_frozen BK543.out 0
               have hfz71_1 := blk_frozen BK543.out 1
               have hfz71_2 := blk_frozen BK543.out 2
               have hfz71_3 := blk_frozen BK543.out 3
               have hnb72 := NB563_544.out
               have hnc72 := NB544_563.out
               have hcz73_0 : wc.cell? ⟨gb563, 0, none⟩ = some (.int .i64 t552) := (blk_cell BK563.out 0).trans rfl
               have hcz73_1 : wc.cell? ⟨gb563, 1, none⟩ = some (.slice Ao40 t553.length co40) := (blk_cell BK563.out 1).trans rfl
               have hcz73_2 : wc.cell? ⟨gb563, 2, none⟩ = some (.slice Ao41 t556.length co41) := (blk_cell BK563.out 2).trans rfl
               have hcz73_3 : wc.cell? ⟨gb563, 3, none⟩ = some (.slice Ao42 t559.length co42) := (blk_cell BK563.out 3).trans rfl
               have hfz73_0 := blk_frozen BK563.out 0
               have hfz73_1 := blk_frozen BK563.out 1
               have hfz73_2 := blk_frozen BK563.out 2
               have hfz73_3 := blk_frozen BK563.out 3
               go_wp2_with (first | (go_at_call 17; (with_reducible refine (caesurakeep_Table.calls kj32 a0_0 _ _ l0_1 _ _ l0_2 _ _ l0_3 t552 _ _ t553 _ _ t556 _ _ t559 false _ ?side1 ?side2 ?side3 ?side4 ?side5 ?side6 ?side7 ?side8 ?side9 ?side10 ?side11 ?side12 A61.out).mono ?_); (case side1 => repeat (first | exact (Kd.C_below HR0_1.out HB.out) | xkC_)); (case side2 => exact HC0_1.out); (case side3 => repeat (first | exact (Kd.C_below HR0_2.out HB.out) | xkC_)); (case side4 => exact HC0_2.out); (case side5 => repeat (first | exact (Kd.C_below HR0_3.out HB.out) | xkC_)); (case side6 => exact HC0_3.out); (case side7 => repeat (first | exact (Kd.R_reads' HO_564001.out).2.2 | xkC_)); (case side8 => exact (Kd.R_reads' HO_564001.out).2.1); (case side9 => repeat (first | exact (Kd.S_reads' HO_564002.out).2.2 | xkC_)); (case side10 => exact (Kd.S_reads' HO_564002.out).2.1); (case side11 => repeat (first | exact (Kd.R_reads' HO_564003.out).2.2 | xkC_)); (case side12 => exact (Kd.R_reads' HO_564003.out).2.1); rintro e w74 ⟨rfl, hb⟩; have n0_ := Aside0.mk (Kd.R_below (by xkR_; exact HO_7.out) hb); have n1_ := Aside0.mk (Kd.R_below (by xkR_; exact HO_564001.out) hb); have n2_ := Aside0.mk (Kd.S_below (by xkS_; exact HO_564002.out) hb); have n3_ := Aside0.mk (Kd.R_below (by xkR_; exact HO_564003.out) hb); have n4_ := Aside0.mk (blk_below (g := gb543) (o := .cells #[.int .i64 a0_0, .slice A0_1 l0_1.length c0_1, .slice A0_2 l0_2.length c0_2, .slice A0_3 l0_3.length c0_3] 26 (0, 0)) (by xkb_; exact BK543.out) hb); have n5_ := Aside0.mk (blk_below (g := gb544) (o := .cells #[.int .u16 a2_0, .int .u16 a2_1] 44 (0, 0)) (by xkb_; exact BK544.out) hb); have n6_ := Aside0.mk (blk_below (g := gb563) (o := .cells #[.int .i64 t552, .slice Ao40 t553.length co40, .slice Ao41 t556.length co41, .slice Ao42 t559.length co42] 26 (0, 0)) (by xkb_; exact BK563.out) hb); have n7_ := Aside0.mk (below_step (by repeat (first | (with_reducible first | exact HB.out | apply below_alloc | apply pw_below_drewN | apply below_drew1 | refine below_set ?_ GE543.out | refine below_set ?_ GE544.out | refine below_set ?_ GE563.out) | exact HB.out)) hb); clear HO_7; clear HO_564001; clear HO_564002; clear HO_564003; clear BK543; clear BK544; clear BK563; clear HB; have HO_7 := n0_; have HO_564001 := n1_; have HO_564002 := n2_; have HO_564003 := n3_; have BK543 := n4_; have BK544 := n5_; have BK563 := n6_; have HB := n7_; clear n0_ n1_ n2_ n3_ n4_ n5_ n6_ n7_; (try clear hb); (try clear hb2); (try clear hk); (try clear hi)))
               go_meet
               case rel => exact ⟨_, (true), (by xrs_), H', ⟨by have := HJ3.out; have := HJ23.out; have := HJ32.out; first | omega | exact Nat.le_refl _⟩, ⟨by xkR_; exact HO_7.out⟩, ⟨by xkR_; exact HO_564001.out⟩, ⟨by xkS_; exact HO_564002.out⟩, ⟨by xkR_; exact HO_564003.out⟩, ⟨by xkb_; exact BK543.out⟩, ⟨by xkb_; exact BK544.out⟩, ⟨by xkb_; exact BK563.out⟩, ⟨by repeat (first | (with_reducible first | exact HB.out | apply below_alloc | apply pw_below_drewN | apply below_drew1 | refine below_set ?_ GE543.out | refine below_set ?_ GE544.out | refine below_set ?_ GE563.out) | exact HB.out)⟩⟩
             ·replace c60 := Bool.eq_false_iff.mpr c60
              subst c60
              have H1 : (caesuralaw06_TableBack.j3 kj32 l1 t547 (t562 != 24) a2_0 a2_1) = some r := by rw [if_neg (show ¬ (false = true) by decide)] at H; exact H
              clear H
              have H := H1
              clear H1
              have H' := Aside0.mk H
              clear H
              go_wp2
              go_meet
              case rel => exact ⟨_, ((t562 != 24)), (by xrs_), H', ⟨by have := HJ3.out; have := HJ23.out; have := HJ32.out; first | omega | exact Nat.le_refl _⟩, ⟨by xkR_; exact HO_7.out⟩, ⟨by xkR_; exact HO_564001.out⟩, ⟨by xkS_; exact HO_564002.out⟩, ⟨by xkR_; exact HO_564003.out⟩, ⟨by xkb_; exact BK543.out⟩, ⟨by xkb_; exact BK544.out⟩, ⟨by xkb_; exact BK563.out⟩, ⟨by repeat (first | (with_reducible first | exact HB.out | apply below_alloc | apply pw_below_drewN | apply below_drew1 | refine below_set ?_ GE543.out | refine below_set ?_ GE544.out | refine below_set ?_ GE563.out) | exact HB.out)⟩⟩
           case rest =>
            clear HC58
            xcl_ c1 c2 p2 c3 c4 c5 c6 c7 c8 c9 c10 c12 c14 c15 c20 c23 c25 c25b0 c25b1 c29 c31 c37 c38 c43 c43b0 c44 c44b0 c44b1 c45 c45b0 c45b1 c46 c47 c49 c50 c52 c53 c55 c56 c59 c59b0 c59b1 c59b2 c60 c62 c63 c64 c66 c69 c70 c72 hcz10_0 hcz10_1 hcz10_2 hcz10_3 hcz13_0 hcz13_1 hcz13_2 hcz13_3 hcz21_0 hcz21_1 hcz21_2 hcz21_3 hcz30_0 hcz30_1 hcz30_2 hcz30_3 hcz39_0 hcz39_1 hcz39_2 hcz39_3 hcz48_0 hcz48_1 hcz48_2 hcz48_3 hcz51_0 hcz51_1 hcz51_2 hcz51_3 hcz54_0 hcz54_1 hcz54_2 hcz54_3 hcz57_0 hcz57_1 hcz57_2 hcz57_3 hcz65_0 hcz65_1 hcz65_2 hcz65_3 hcz67_0 hcz67_1 hcz67_2 hcz67_3 hcz71_0 hcz71_1 hcz71_2 hcz71_3 hcz73_0 hcz73_1 hcz73_2 hcz73_3 hfz10_0 hfz10_1 hfz10_2 hfz10_3 hfz13_0 hfz13_1 hfz13_2 hfz13_3 hfz21_0 hfz21_1 hfz21_2 hfz21_3 hfz30_0 hfz30_1 hfz30_2 hfz30_3 hfz39_0 hfz39_1 hfz39_2 hfz39_3 hfz48_0 hfz48_1 hfz48_2 hfz48_3 hfz51_0 hfz51_1 hfz51_2 hfz51_3 hfz54_0 hfz54_1 hfz54_2 hfz54_3 hfz57_0 hfz57_1 hfz57_2 hfz57_3 hfz65_0 hfz65_1 hfz65_2 hfz65_3 hfz67_0 hfz67_1 hfz67_2 hfz67_3 hfz71_0 hfz71_1 hfz71_2 hfz71_3 hfz73_0 hfz73_1 hfz73_2 hfz73_3 p2
            obtain ⟨kq, x96_57, rfl, HA, HJ57, HO_7, HO_564001, HO_564002, HO_564003, BK543, BK544, BK563, HB⟩ := hcut
            cases kq with
            | zero => exact absurd HA.out (by simp [caesuralaw06_TableBack.j3])
            | succ kj57 =>
             have H := HA.out
             clear HA
             simp only [caesuralaw06_TableBack.j3] at H
             by_cases c75 : x96_57 = true
             ·subst c75
              have H1 : (none) = some r := by rw [if_pos rfl] at H; exact H
              clear H
              have H := H1
              clear H1
              exact absurd H (by simp)
             ·replace c75 := Bool.eq_false_iff.mpr c75
              subst c75
              have H1 : ((some (([] : List Int) : List Int)).bind fun y565 => (if y565.length + t547.length < 140737488355328 then ((some (y565 ++ t547 : List Int)).bind fun y568 => (if (y568.length : Int) = 0 then (none) else (if 0 ≤ (Int.tmod (wrap64 (a2_0)) (y568.length : Int)) then (if (Int.tmod (wrap64 (a2_0)) (y568.length : Int)) < (y568.length : Int) then ((table_Decode.f kj57 (y568.set ((Int.tmod (wrap64 (a2_0)) (y568.length : Int)) : Int).toNat (Go.bits .xor .u8 (rd y568 (Int.tmod (wrap64 (a2_0)) (y568.length : Int))) ((1 + ((Int.tmod a2_1 255) % 256)) % 256)))).bind fun bt573 => (if bt573.2.2.2.2 = 23 then (caesuralaw06_TableBack.j4 kj57 l1) else (if bt573.2.2.2.2 = 22 then (caesuralaw06_TableBack.j4 kj57 l1) else (none)))) else (none)) else (none)))) else (none))) = some r := by rw [if_neg (show ¬ (false = true) by decide)] at H; exact H
              clear H
              have H := H1
              clear H1
              obtain ⟨y565, hy565⟩ : ∃ y_ : List Int, y_ = (([] : List Int)) := ⟨_, rfl⟩
              replace H : (if y565.length + t547.length < 140737488355328 then ((some (y565 ++ t547 : List Int)).bind fun y568 => (if (y568.length : Int) = 0 then (none) else (if 0 ≤ (Int.tmod (wrap64 (a2_0)) (y568.length : Int)) then (if (Int.tmod (wrap64 (a2_0)) (y568.length : Int)) < (y568.length : Int) then ((table_Decode.f kj57 (y568.set ((Int.tmod (wrap64 (a2_0)) (y568.length : Int)) : Int).toNat (Go.bits .xor .u8 (rd y568 (Int.tmod (wrap64 (a2_0)) (y568.length : Int))) ((1 + ((Int.tmod a2_1 255) % 256)) % 256)))).bind fun bt573 => (if bt573.2.2.2.2 = 23 then (caesuralaw06_TableBack.j4 kj57 l1) else (if bt573.2.2.2.2 = 22 then (caesuralaw06_TableBack.j4 kj57 l1) else (none)))) else (none)) else (none)))) else (none)) = some r := by first | (rw [hy565]; with_reducible exact H) | (have H2_ := (Option.bind_some _ _).symm.trans H; rw [hy565]; with_reducible exact H2_) | (have H2_ := (Option.bind_some _ _).symm.trans H; with_reducible exact H2_) | with_reducible exact H | (rw [hy565]; exact H) | exact H
              have Ny565 := Aside0.mk hy565
              clear hy565
              by_cases c76 : y565.length + t547.length < 140737488355328
              ·rw [if_pos c76] at H
               have LMc76 := Aside0.mk c76
               clear c76
               obtain ⟨y568, hy568⟩ : ∃ y_ : List Int, y_ = (y565 ++ t547) := ⟨_, rfl⟩
               replace H : (if (y568.length : Int) = 0 then (none) else (if 0 ≤ (Int.tmod (wrap64 (a2_0)) (y568.length : Int)) then (if (Int.tmod (wrap64 (a2_0)) (y568.length : Int)) < (y568.length : Int) then ((table_Decode.f kj57 (y568.set ((Int.tmod (wrap64 (a2_0)) (y568.length : Int)) : Int).toNat (Go.bits .xor .u8 (rd y568 (Int.tmod (wrap64 (a2_0)) (y568.length : Int))) ((1 + ((Int.tmod a2_1 255) % 256)) % 256)))).bind fun bt573 => (if bt573.2.2.2.2 = 23 then (caesuralaw06_TableBack.j4 kj57 l1) else (if bt573.2.2.2.2 = 22 then (caesuralaw06_TableBack.j4 kj57 l1) else (none)))) else (none)) else (none))) = some r := by first | (rw [hy568]; with_reducible exact H) | (have H2_ := (Option.bind_some _ _).symm.trans H; rw [hy568]; with_reducible exact H2_) | (have H2_ := (Option.bind_some _ _).symm.trans H; with_reducible exact H2_) | with_reducible exact H | (rw [hy568]; exact H) | exact H
               have Ny568 := Aside0.mk hy568
               clear hy568
               by_cases c77 : (y568.length : Int) = 0
               ·rw [if_pos c77] at H
                exact absurd H (by simp)
               ·rw [if_neg c77] at H
                have c77b0 : ((y568.length : Int) == 0) = false := beq_eq_false_iff_ne.mpr c77
                have c77b1 : ((y568.length : Int) != 0) = true := bne_iff_ne.mpr c77
                have c77b2 : ¬ (y568 = []) := fun h_ => c77 (by rw [h_]; rfl)
                obtain ⟨ji78, hji78⟩ : ∃ j_ : Int, (Int.tmod (wrap64 (a2_0)) (y568.length : Int)) = j_ := ⟨_, rfl⟩
                replace H : (if 0 ≤ (ji78) then (if (ji78) < (y568.length : Int) then ((table_Decode.f kj57 (y568.set ((ji78) : Int).toNat (Go.bits .xor .u8 (rd y568 (ji78)) ((1 + ((Int.tmod a2_1 255) % 256)) % 256)))).bind fun bt573 => (if bt573.2.2.2.2 = 23 then (caesuralaw06_TableBack.j4 kj57 l1) else (if bt573.2.2.2.2 = 22 then (caesuralaw06_TableBack.j4 kj57 l1) else (none)))) else (none)) else (none)) = some r := by first | (rw [hji78] at H; exact H) | (simp only [hji78] at H ⊢; exact H)
                by_cases c79 : 0 ≤ (ji78)
                ·rw [if_pos c79] at H
                 have c79b0 : decide (0 ≤ (ji78)) = true := decide_eq_true c79
                 clear c79
                 by_cases c80 : (ji78) < (y568.length : Int)
                 ·rw [if_pos c80] at H
                  have c80b0 : decide ((ji78) < (y568.length : Int)) = true := decide_eq_true c80
                  clear c80
                  obtain ⟨y572, hy572⟩ : ∃ y_ : List Int, y_ = (y568.set ((ji78) : Int).toNat (Go.bits .xor .u8 (rd y568 (ji78)) ((1 + ((Int.tmod a2_1 255) % 256)) % 256))) := ⟨_, rfl⟩
                  replace H : ((table_Decode.f kj57 y572).bind fun bt573 => (if bt573.2.2.2.2 = 23 then (caesuralaw06_TableBack.j4 kj57 l1) else (if bt573.2.2.2.2 = 22 then (caesuralaw06_TableBack.j4 kj57 l1) else (none)))) = some r := by first | (rw [hy572]; with_reducible exact H) | (have H2_ := (Option.bind_some _ _).symm.trans H; rw [hy572]; with_reducible exact H2_) | (have H2_ := (Option.bind_some _ _).symm.trans H; with_reducible exact H2_) | with_reducible exact H | (rw [hy572]; exact H) | exact H
                  have Ny572 := Aside0.mk hy572
                  clear hy572
                  replace H := Option.bind_eq_some_iff.mp H
                  obtain ⟨⟨t573, t574, t577, t580, t583⟩, A820, H⟩ := H
                  replace H : (if t583 = 23 then (caesuralaw06_TableBack.j4 kj57 l1) else (if t583 = 22 then (caesuralaw06_TableBack.j4 kj57 l1) else (none))) = some r := H
                  have A82 := Aside0.mk A820
                  clear A820
                  by_cases c83 : t583 = 23
                  ·rw [if_pos c83] at H
                   have c83b0 : (t583 == 23) = true := beq_iff_eq.mpr c83
                   have c83b1 : (t583 != 23) = false := bne_eq_false_iff_eq.mpr c83
                   clear c83
                   have H' := Aside0.mk H
                   clear H
                   try go_wp2_with (first | ((with_reducible refine gate_dst (N := 97) rfl ?_); xgg_; refine Kd.R_lit (Kd.int .u8) _ 5 ?hg (N := 97) ?hd (xs := ([] : List Int)) (inner := []) (ok := fun _ => True) (okp := fun _ => True) ?hr ?hp (fun _ hk => hk) trivial (Below.refl _ _) (Nat.le_refl _) (by simp) ?_; (case hd => rfl); (case hg => rfl); (case hr => xgs_); (case hp => exact (Reps.none _ _)); intro v566 w84 ho85 hb hg_ hnew_; clear hg_ hnew_; (first | rw [← Ny565.out] at ho85 | (simp only [Int.reduceToNat] at ho85; rw [← Ny565.out] at ho85)); have n0_ := Aside0.mk (Kd.R_elder' (by xkR_; exact HO_7.out) (Kd.R_base ho85) hb); have n1_ := Aside0.mk (Kd.R_below (by xkR_; exact HO_564001.out) hb); have n2_ := Aside0.mk (Kd.S_below (by xkS_; exact HO_564002.out) hb); have n3_ := Aside0.mk (Kd.R_below (by xkR_; exact HO_564003.out) hb); have n4_ := Aside0.mk (Kd.R_lower (Kd.R_new' ho85 (Kd.R_lt (by xkR_; exact HO_7.out))) (below_size (by repeat (first | (with_reducible first | exact HB.out | apply below_alloc | apply pw_below_drewN | apply below_drew1 | refine below_set ?_ GE543.out | refine below_set ?_ GE544.out | refine below_set ?_ GE563.out) | exact HB.out)))); have n5_ := Aside0.mk (blk_below (g := gb543) (o := .cells #[.int .i64 a0_0, .slice A0_1 l0_1.length c0_1, .slice A0_2 l0_2.length c0_2, .slice A0_3 l0_3.length c0_3] 26 (0, 0)) (by xkb_; exact BK543.out) hb); have n6_ := Aside0.mk (blk_below (g := gb544) (o := .cells #[.int .u16 a2_0, .int .u16 a2_1] 44 (0, 0)) (by xkb_; exact BK544.out) hb); have n7_ := Aside0.mk (blk_below (g := gb563) (o := .cells #[.int .i64 t552, .slice Ao40 t553.length co40, .slice Ao41 t556.length co41, .slice Ao42 t559.length co42] 26 (0, 0)) (by xkb_; exact BK563.out) hb); have n8_ := Aside0.mk (below_step (by repeat (first | (with_reducible first | exact HB.out | apply below_alloc | apply pw_below_drewN | apply below_drew1 | refine below_set ?_ GE543.out | refine below_set ?_ GE544.out | refine below_set ?_ GE563.out) | exact HB.out)) hb); clear HO_7; clear HO_564001; clear HO_564002; clear HO_564003; clear BK543; clear BK544; clear BK563; clear HB; have HO_7 := n0_; have HO_564001 := n1_; have HO_564002 := n2_; have HO_564003 := n3_; have HO567 := n4_; have BK543 := n5_; have BK544 := n6_; have BK563 := n7_; have HB := n8_; clear n0_ n1_ n2_ n3_ n4_ n5_ n6_ n7_ n8_; clear hb ho85) | ((with_reducible refine gate_builtin (b := .append) (xs := #[.tmp 97, .tmp 98]) rfl ?_); xgg_; at_builtin; refine Kd.R_append_rows (Kd.int .u8) (w0 := w) w.heap.size rfl (.tmp 97) (.tmp 98) 27 5 (.int .u8 0) 1 rfl Try.underlying27 info5 rfl (by decide) (by omega) v566 y565 t547 _ _ _ (fun k_ => some k_ ≠ (.slice Ao34 t547.length co34 : Value).ownBlock) (fun _ => False) rfl rfl ?aO ?aR (fun _ _ h => h) (fun _ h => h.elim) ?aF ?aB ?aS ?aL ?_; (case aR => repeat (first | exact (Kd.R_reads' HO_7.out).2.2 | xkC_)); (case aB => exact (by repeat (first | (with_reducible first | exact HB.out | apply below_alloc | apply pw_below_drewN | apply below_drew1 | refine below_set ?_ GE543.out | refine below_set ?_ GE544.out | refine below_set ?_ GE563.out) | exact HB.out))); (case aF => exact (fun k_ hk => Kd.fresh' (Kd.R_lt (by xkR_; exact HO_7.out)) k_ hk)); (case aO => exact (by xkR_; exact Kd.R_mono HO567.out (fun _ hk => hk.2))); (case aS => exact (below_size (by repeat (first | (with_reducible first | exact HB.out | apply below_alloc | apply pw_below_drewN | apply below_drew1 | refine below_set ?_ GE543.out | refine below_set ?_ GE544.out | refine below_set ?_ GE563.out) | exact HB.out)))); (case aL => have := LMc76.out; omega); intro v569 w86 ho hb hg hat; rw [← Ny568.out] at ho; have n0_ := Aside0.mk (Kd.R_after (ok := (fun _ => True)) (by xkR_; exact HO_7.out) hg hat); have n1_ := Aside0.mk (Kd.R_over' (by xkR_; exact HO_564001.out) (Kd.R_typed (by xkR_; exact HO567.out)) (by decide) hg); have n2_ := Aside0.mk (Kd.S_over' (by xkS_; exact HO_564002.out) (Kd.R_typed (by xkR_; exact HO567.out)) (by decide) hg); have n3_ := Aside0.mk (Kd.R_over' (by xkR_; exact HO_564003.out) (Kd.R_typed (by xkR_; exact HO567.out)) (by decide) hg); have n4_ := Aside0.mk (blk_grown (g := gb543) (o := .cells #[.int .i64 a0_0, .slice A0_1 l0_1.length c0_1, .slice A0_2 l0_2.length c0_2, .slice A0_3 l0_3.length c0_3] 26 (0, 0)) (by xkb_; exact BK543.out) hg (Kd.R_ne HO567.out BK543.out (by decide))); have n5_ := Aside0.mk (blk_grown (g := gb544) (o := .cells #[.int .u16 a2_0, .int .u16 a2_1] 44 (0, 0)) (by xkb_; exact BK544.out) hg (Kd.R_ne HO567.out BK544.out (by decide))); have n6_ := Aside0.mk (blk_grown (g := gb563) (o := .cells #[.int .i64 t552, .slice Ao40 t553.length co40, .slice Ao41 t556.length co41, .slice Ao42 t559.length co42] 26 (0, 0)) (by xkb_; exact BK563.out) hg (Kd.R_ne HO567.out BK563.out (by decide))); have n7_ := Aside0.mk (hb); have n8_ := Aside0.mk (ho); clear HO_7; clear HO_564001; clear HO_564002; clear HO_564003; clear BK543; clear BK544; clear BK563; clear HB; clear HO567; have HO_7 := n0_; have HO_564001 := n1_; have HO_564002 := n2_; have HO_564003 := n3_; have BK543 := n4_; have BK544 := n5_; have BK563 := n6_; have HB := n7_; have HO570 := n8_; clear n0_ n1_ n2_ n3_ n4_ n5_ n6_ n7_ n8_; clear ho hb hg hat))
                   have n0_ := Aside0.mk (Kd.R_drew HO_7.out)
                   have n1_ := Aside0.mk (Kd.R_drew HO_564001.out)
                   have n2_ := Aside0.mk (Kd.S_drew HO_564002.out)
                   have n3_ := Aside0.mk (Kd.R_drew HO_564003.out)
                   have n4_ := Aside0.mk (Kd.R_drew HO570.out)
                   have n5_ := Aside0.mk (blk_drew BK543.out)
                   have n6_ := Aside0.mk (blk_drew BK544.out)
                   have n7_ := Aside0.mk (blk_drew BK563.out)
                   have n8_ := Aside0.mk (below_drew1 HB.out)
                   clear HO_7
                   clear HO_564001
                   clear HO_564002
                   clear HO_564003
                   clear HO570
                   clear BK543
                   clear BK544
                   clear BK563
                   clear HB
                   have HO_7 := n0_
                   have HO_564001 := n1_
                   have HO_564002 := n2_
                   have HO_564003 := n3_
                   have HO570 := n4_
                   have BK543 := n5_
                   have BK544 := n6_
                   have BK563 := n7_
                   have HB := n8_
                   clear n0_ n1_ n2_ n3_ n4_ n5_ n6_ n7_ n8_
                   obtain ⟨Ao88, co88, eo88⟩ := Kd.R_slice HO570.out
                   (first | subst eo88 | (injection eo88 with f1_ f2_ f3_; have f4_ := f1_.symm; have f5_ := f3_.symm; clear f1_ f2_ f3_; subst f4_; subst f5_))
                   have p571 : 0 ≤ ((ji78) : Int) := of_decide_eq_true (by xas_)
                   have q571 : (ji78) < (y568.length : Int) := of_decide_eq_true (by xas_)
                   obtain ⟨ad571, e571, hx571_0⟩ := Kd.at_int (Kd.R_reads' HO570.out).2.2 (ji78) p571 q571
                   cases e571
                   replace p571 := eq_true p571
                   replace q571 := eq_true q571
                   have p81 : 0 ≤ ((ji78) : Int) := of_decide_eq_true (by xas_)
                   have q81 : ((ji78) : Int) < ((y568.length : Int) : Int) := of_decide_eq_true (by xas_)
                   obtain ⟨go81, co81, eo81, gb81, gl81, cl81, HG81⟩ := Kd.R_form HO570.out (by omega)
                   (first | cases eo81 | (injection eo81 with ea_ en_ ec_; (first | subst ea_ | (injection ea_ with ea_; subst ea_)); subst ec_; clear en_))
                   have GB81 := Aside0.mk gb81
                   have GG81 := Aside0.mk HG81
                   clear gb81 gl81 HG81
                   (first | simp only [add_plain] at hx571_0 | skip)
                   obtain ⟨hx81_0, hf81_0⟩ := Kd.R_celln 0 HO570.out ((ji78) : Int) p81 q81
                   replace p81 := eq_true p81
                   replace q81 := eq_true q81
                   have HP89 := Kd.R_putn HO570.out ((ji78) : Int) (Go.bits .xor .u8 (rd y568 (ji78)) ((1 + ((Int.tmod a2_1 255) % 256)) % 256))
                   rw [← Ny572.out] at HP89
                   have HQ89 := Aside0.mk HP89
                   clear HP89
                   refine start_ (n := 17) (S := fun w' => w'.cell? ⟨gb544, 0, none⟩ = some (.int .u16 a2_0) ∧ w'.cell? ⟨gb544, 1, none⟩ = some (.int .u16 a2_1) ∧ w'.cell? ⟨go81, ((ji78)).toNat, none⟩ = some (.int .u8 (rd y568 (ji78)))) (ds := [16]) #[false, false, false, false, false, false, false, false, false, false, false, false, false, false, false, false, false] (by kernel_rfl) rfl rfl ⟨(blk_cell BK544.out 0).trans rfl, (blk_cell BK544.out 1).trans rfl, hx571_0⟩ (fun hHeld => ?_); refine with_tabW caesuralaw06_TableBack.tab12 caesuralaw06_TableBack.bits12 (fun HT_ HW_ => ?_)
                   generalize w86.drew = w87 at HO_7 HO_564001 HO_564002 HO_564003 HO570 BK543 BK544 BK563 HB GG81 HQ89 hf81_0 hx571_0 hx81_0 hHeld ⊢
                   refine pure_ (i := 0) (N := some 100) (v := ?_) (a' := ?_) #[true, false, false, false, false, false, false, false, false, false, false, false, false, false, false, false, false] rfl rfl (any_of HT_.out (by kernel_rfl)) (fun _ _ _ h => h) (Or.inl ⟨by rfl, ?_⟩) ?_ ?_
                   rotate_left
                   ·intro w'
                    go_simp
                    with_reducible rfl
                   rotate_left
                   ·xsp_ i64_w i32_w
                    rfl
                   refine pure_ (i := 1) (N := some 101) (v := ?_) (a' := ?_) #[true, true, false, false, false, false, false, false, false, false, false, false, false, false, false, false, false] rfl rfl (any_of HT_.out (by kernel_rfl)) (fun _ _ _ h => h) (Or.inl ⟨by rfl, ?_⟩) ?_ ?_
                   rotate_left
                   ·intro w'
                    go_simp
                    with_reducible rfl
                   rotate_left
                   ·xsp_ i64_w i32_w
                    rfl
                   refine pure_ (i := 4) (N := some 104) (v := ?_) (a' := ?_) #[true, true, false, false, true, false, false, false, false, false, false, false, false, false, false, false, false] rfl rfl (any_of HT_.out (by kernel_rfl)) (fun _ _ _ h => h) (Or.inl ⟨by rfl, ?_⟩) ?_ ?_
                   rotate_left
                   ·intro w'
                    go_simp
                    with_reducible rfl
                   rotate_left
                   ·xsp_ i64_w i32_w
                    rfl
                   refine pure_ (i := 5) (N := some 105) (v := ?_) (a' := ?_) #[true, true, false, false, true, true, false, false, false, false, false, false, false, false, false, false, false] rfl rfl (any_of HT_.out (by kernel_rfl)) (fun _ _ _ h => h) (Or.inl ⟨by rfl, ?_⟩) ?_ ?_
                   rotate_left
                   ·intro w'
                    go_simp
                    with_reducible rfl
                   rotate_left
                   ·xsp_ i64_w i32_w
                    rfl
                   refine pure_ (i := 9) (N := some 109) (v := ?_) (a' := ?_) #[true, true, false, false, true, true, false, false, false, true, false, false, false, false, false, false, false] rfl rfl (any_of HT_.out (by kernel_rfl)) (fun _ _ _ h => h) (Or.inl ⟨by rfl, ?_⟩) ?_ ?_
                   rotate_left
                   ·intro w'
                    go_simp
                    with_reducible rfl
                   rotate_left
                   ·xsp_ i64_w i32_w
                    rfl
                   refine take_ (i := 2) (N := some 102) (v := ?_) (a' := ?_) #[true, true, true, false, true, true, false, false, false, true, false, false, false, false, false, false, false] rfl rfl (take_ofW HT_.out HW_.out (by kernel_rfl)) (fun _ _ _ h => h) (Or.inl ⟨by rfl, ?_⟩) hHeld ?_ ?_
                   rotate_left
                   ·rintro w' ⟨s0, s1, s2⟩
                    go_simp
                    with_reducible rfl
                   rotate_left
                   ·xsp_ i64_w i32_w
                    rfl
                   refine pure_ (i := 3) (N := some 103) (v := ?_) (a' := ?_) #[true, true, true, true, true, true, false, false, false, true, false, false, false, false, false, false, false] rfl rfl (any_of HT_.out (by kernel_rfl)) (fun _ _ _ h => h) (Or.inl ⟨by rfl, ?_⟩) ?_ ?_
                   rotate_left
                   ·intro w'
                    go_simp
                    with_reducible rfl
                   rotate_left
                   ·xsp_ i64_w i32_w
                    rfl
                   refine pure_ (i := 6) (N := some 106) (v := ?_) (a' := ?_) #[true, true, true, true, true, true, true, false, false, true, false, false, false, false, false, false, false] rfl rfl (any_of HT_.out (by kernel_rfl)) (fun _ _ _ h => h) (Or.inl ⟨by rfl, ?_⟩) ?_ ?_
                   rotate_left
                   ·intro w'
                    go_simp
                    with_reducible rfl
                   rotate_left
                   ·xsp_ i64_w i32_w
                    rfl
                   refine pure_ (i := 7) (N := some 107) (v := ?_) (a' := ?_) #[true, true, true, true, true, true, true, true, false, true, false, false, false, false, false, false, false] rfl rfl (any_of HT_.out (by kernel_rfl)) (fun _ _ _ h => h) (Or.inl ⟨by rfl, ?_⟩) ?_ ?_
                   rotate_left
                   ·intro w'
                    go_simp
                    with_reducible rfl
                   rotate_left
                   ·xsp_ i64_w i32_w
                    rfl
                   refine take_ (i := 8) (N := some 108) (v := ?_) (a' := ?_) #[true, true, true, true, true, true, true, true, true, true, false, false, false, false, false, false, false] rfl rfl (take_ofW HT_.out HW_.out (by kernel_rfl)) (fun _ _ _ h => h) (Or.inl ⟨by rfl, ?_⟩) hHeld ?_ ?_
                   rotate_left
                   ·rintro w' ⟨s0, s1, s2⟩
                    go_simp
                    with_reducible rfl
                   rotate_left
                   ·xsp_ i64_w i32_w
                    rfl
                   refine take_ (i := 10) (N := some 110) (v := ?_) (a' := ?_) #[true, true, true, true, true, true, true, true, true, true, true, false, false, false, false, false, false] rfl rfl (take_ofW HT_.out HW_.out (by kernel_rfl)) (fun _ _ _ h => h) (Or.inl ⟨by rfl, ?_⟩) hHeld ?_ ?_
                   rotate_left
                   ·rintro w' ⟨s0, s1, s2⟩
                    go_simp
                    with_reducible rfl
                   rotate_left
                   ·xsp_ i64_w i32_w
                    rfl
                   refine pure_ (i := 11) (N := some 111) (v := ?_) (a' := ?_) #[true, true, true, true, true, true, true, true, true, true, true, true, false, false, false, false, false] rfl rfl (any_of HT_.out (by kernel_rfl)) (fun _ _ _ h => h) (Or.inl ⟨by rfl, ?_⟩) ?_ ?_
                   rotate_left
                   ·intro w'
                    go_simp
                    with_reducible rfl
                   rotate_left
                   ·xsp_ i64_w i32_w
                    rfl
                   refine pure_ (i := 12) (N := some 112) (v := ?_) (a' := ?_) #[true, true, true, true, true, true, true, true, true, true, true, true, true, false, false, false, false] rfl rfl (any_of HT_.out (by kernel_rfl)) (fun _ _ _ h => h) (Or.inl ⟨by rfl, ?_⟩) ?_ ?_
                   rotate_left
                   ·intro w'
                    go_simp
                    with_reducible rfl
                   rotate_left
                   ·xsp_ i64_w i32_w
                    rfl
                   refine pure_ (i := 13) (N := some 113) (v := ?_) (a' := ?_) #[true, true, true, true, true, true, true, true, true, true, true, true, true, true, false, false, false] rfl rfl (any_of HT_.out (by kernel_rfl)) (fun _ _ _ h => h) (Or.inl ⟨by rfl, ?_⟩) ?_ ?_
                   rotate_left
                   ·intro w'
                    go_simp
                    with_reducible rfl
                   rotate_left
                   ·xsp_ i64_w i32_w
                    rfl
                   refine pure_ (i := 14) (N := some 114) (v := ?_) (a' := ?_) #[true, true, true, true, true, true, true, true, true, true, true, true, true, true, true, false, false] rfl rfl (any_of HT_.out (by kernel_rfl)) (fun _ _ _ h => h) (Or.inl ⟨by rfl, ?_⟩) ?_ ?_
                   rotate_left
                   ·intro w'
                    go_simp
                    with_reducible rfl
                   rotate_left
                   ·xsp_ i64_w i32_w
                    rfl
                   refine pure_ (i := 15) (N := some 115) (v := ?_) (a' := ?_) #[true, true, true, true, true, true, true, true, true, true, true, true, true, true, true, true, false] rfl rfl (any_of HT_.out (by kernel_rfl)) (fun _ _ _ h => h) (Or.inl ⟨by rfl, ?_⟩) ?_ ?_
                   rotate_left
                   ·intro w'
                    go_simp
                    with_reducible rfl
                   rotate_left
                   ·xsp_ i64_w i32_w
                    rfl
                   refine last_ (i := 16) (N := none) #[true, true, true, true, true, true, true, true, true, true, true, true, true, true, true, true, true] rfl rfl (one_of HT_.out (by kernel_rfl)) (by decide) (fun K hK => ?_)
                   refine skip_ (w1 := ?_) (by rfl) rfl ?_ ?_
                   rotate_left
                   ·go_simp
                    rfl
                   refine hK.out _ _ ?_
                   clear hK K
                   refine done_ (done_of HT_.out (by kernel_rfl)) ?_
                   have n0_ : Aside0 (Kd.R (Kd.int .u8) 5 (w87.setCell ⟨go81, ((ji78) : Int).toNat, none⟩ (.int .u8 (Go.bits .xor .u8 (rd y568 (ji78)) ((1 + ((Int.tmod a2_1 255) % 256)) % 256)))) w.heap.size (fun k_ => some k_ ≠ (.slice (some ⟨go81, 0, none⟩) y568.length co88 : Value).ownBlock) (.slice Ao34 t547.length co34) t547) := ⟨by xkR_; exact Kd.R_mono (Kd.R_far (p := ⟨go81, ((ji78) : Int).toNat, none⟩) (Kd.R_mono HO_7.out (fun k_ hk => (⟨hk, fun e_ => hk.2 (by rw [e_]; rfl)⟩ : _ ∧ k_ ≠ go81))) (fun _ hk => hk.2) (.int .u8 (Go.bits .xor .u8 (rd y568 (ji78)) ((1 + ((Int.tmod a2_1 255) % 256)) % 256)))) (fun _ hk => hk.1.2)⟩
                   have n1_ : Aside0 (Kd.R k52 52 (w87.setCell ⟨go81, ((ji78) : Int).toNat, none⟩ (.int .u8 (Go.bits .xor .u8 (rd y568 (ji78)) ((1 + ((Int.tmod a2_1 255) % 256)) % 256)))) w.heap.size (fun _ => True) (.slice Ao40 t553.length co40) t553) := ⟨by xkR_; exact Kd.R_mono (Kd.R_far (p := ⟨go81, ((ji78) : Int).toNat, none⟩) (Kd.R_types HO_564001.out GG81.out (by decide)) (fun _ hk => hk.2) (.int .u8 (Go.bits .xor .u8 (rd y568 (ji78)) ((1 + ((Int.tmod a2_1 255) % 256)) % 256)))) (fun _ hk => trivial)⟩
                   have n2_ : Aside0 (Kd.S (Kd.slice 3 (Kd.int .i64)) 53 (w87.setCell ⟨go81, ((ji78) : Int).toNat, none⟩ (.int .u8 (Go.bits .xor .u8 (rd y568 (ji78)) ((1 + ((Int.tmod a2_1 255) % 256)) % 256)))) w.heap.size (fun _ => True) (.slice Ao41 t556.length co41) t556) := ⟨by xkS_; exact Kd.S_mono (Kd.S_far (p := ⟨go81, ((ji78) : Int).toNat, none⟩) (Kd.S_types HO_564002.out GG81.out (by decide)) (fun _ hk => hk.2) (.int .u8 (Go.bits .xor .u8 (rd y568 (ji78)) ((1 + ((Int.tmod a2_1 255) % 256)) % 256)))) (fun _ hk => trivial)⟩
                   have n3_ : Aside0 (Kd.R Kd.bool 4 (w87.setCell ⟨go81, ((ji78) : Int).toNat, none⟩ (.int .u8 (Go.bits .xor .u8 (rd y568 (ji78)) ((1 + ((Int.tmod a2_1 255) % 256)) % 256)))) w.heap.size (fun _ => True) (.slice Ao42 t559.length co42) t559) := ⟨by xkR_; exact Kd.R_mono (Kd.R_far (p := ⟨go81, ((ji78) : Int).toNat, none⟩) (Kd.R_types HO_564003.out GG81.out (by decide)) (fun _ hk => hk.2) (.int .u8 (Go.bits .xor .u8 (rd y568 (ji78)) ((1 + ((Int.tmod a2_1 255) % 256)) % 256)))) (fun _ hk => trivial)⟩
                   have n4_ : Aside0 (Kd.R (Kd.int .u8) 5 (w87.setCell ⟨go81, ((ji78) : Int).toNat, none⟩ (.int .u8 (Go.bits .xor .u8 (rd y568 (ji78)) ((1 + ((Int.tmod a2_1 255) % 256)) % 256)))) w.heap.size (fun k_ => some k_ ≠ (.slice Ao34 t547.length co34 : Value).ownBlock) (.slice (some ⟨go81, 0, none⟩) y568.length co88) y572) := ⟨by xkR_; exact HQ89.out⟩
                   have n5_ : Aside0 ((w87.setCell ⟨go81, ((ji78) : Int).toNat, none⟩ (.int .u8 (Go.bits .xor .u8 (rd y568 (ji78)) ((1 + ((Int.tmod a2_1 255) % 256)) % 256)))).heap[gb543]? = some (.cells #[.int .i64 a0_0, .slice A0_1 l0_1.length c0_1, .slice A0_2 l0_2.length c0_2, .slice A0_3 l0_3.length c0_3] 26 (0, 0))) := ⟨by xkb_; refine blk_far ?_ (by have h_ := Kd.R_ne HO570.out BK543.out (by decide); intro e_; exact h_ (by rw [e_]; rfl)) _; xkb_; exact BK543.out⟩
                   have n6_ : Aside0 ((w87.setCell ⟨go81, ((ji78) : Int).toNat, none⟩ (.int .u8 (Go.bits .xor .u8 (rd y568 (ji78)) ((1 + ((Int.tmod a2_1 255) % 256)) % 256)))).heap[gb544]? = some (.cells #[.int .u16 a2_0, .int .u16 a2_1] 44 (0, 0))) := ⟨by xkb_; refine blk_far ?_ (by have h_ := Kd.R_ne HO570.out BK544.out (by decide); intro e_; exact h_ (by rw [e_]; rfl)) _; xkb_; exact BK544.out⟩
                   have n7_ : Aside0 ((w87.setCell ⟨go81, ((ji78) : Int).toNat, none⟩ (.int .u8 (Go.bits .xor .u8 (rd y568 (ji78)) ((1 + ((Int.tmod a2_1 255) % 256)) % 256)))).heap[gb563]? = some (.cells #[.int .i64 t552, .slice Ao40 t553.length co40, .slice Ao41 t556.length co41, .slice Ao42 t559.length co42] 26 (0, 0))) := ⟨by xkb_; refine blk_far ?_ (by have h_ := Kd.R_ne HO570.out BK563.out (by decide); intro e_; exact h_ (by rw [e_]; rfl)) _; xkb_; exact BK563.out⟩
                   have n8_ : Aside0 (Below w.heap.size w (w87.setCell ⟨go81, ((ji78) : Int).toNat, none⟩ (.int .u8 (Go.bits .xor .u8 (rd y568 (ji78)) ((1 + ((Int.tmod a2_1 255) % 256)) % 256))))) := ⟨by repeat (first | (with_reducible first | exact HB.out | apply below_alloc | apply pw_below_drewN | apply below_drew1 | refine below_set ?_ GB81.out | refine below_set ?_ GE543.out | refine below_set ?_ GE544.out | refine below_set ?_ GE563.out) | exact HB.out)⟩
                   (try clear HO_7)
                   (try clear HO_564001)
                   (try clear HO_564002)
                   (try clear HO_564003)
                   (try clear HO570)
                   (try clear BK543)
                   (try clear BK544)
                   (try clear BK563)
                   (try clear HB)
                   (try simp only [IntKind.wrap_u8, IntKind.wrap_u16, IntKind.wrap_u32])
                   generalize (w87.setCell ⟨go81, ((ji78) : Int).toNat, none⟩ (.int .u8 (Go.bits .xor .u8 (rd y568 (ji78)) ((1 + ((Int.tmod a2_1 255) % 256)) % 256)))) = w90 at n0_ n1_ n2_ n3_ n4_ n5_ n6_ n7_ n8_ ⊢
                   have HO_7 := n0_
                   have HO_564001 := n1_
                   have HO_564002 := n2_
                   have HO_564003 := n3_
                   have HO570 := n4_
                   have BK543 := n5_
                   have BK544 := n6_
                   have BK563 := n7_
                   have HB := n8_
                   clear n0_ n1_ n2_ n3_ n4_ n5_ n6_ n7_ n8_
                   try go_wp2_with (first | ((with_reducible refine gate_callee (f := 14) rfl ?_); refine goesL_ (some 118) rfl rfl Try.func14 (by kernel_rfl) rfl #[.slice (some ⟨go81, 0, none⟩) y572.length co88] rfl (by (try simp only [List.map_toArray, List.map_cons, List.map_nil]); first | done | (rw [show y572.length = y568.length from (Kd.R_reads' HO570.out).1.symm] <;> rfl) | rfl | (simp only [List.length_drop, List.length_take]; rfl)) ?_; (with_reducible refine (table_Decode.calls kj57 _ _ y572 t573 t574 t577 t580 t583 _ ?side1 ?side2 A82.out).mono ?_); (case side1 => repeat (first | exact (Kd.R_reads' HO570.out).2.2 | xkC_)); (case side2 => rw [show y572.length = y568.length from (Kd.R_reads' HO570.out).1.symm]; exact (Kd.R_reads' HO570.out).2.1); rintro e w91 ⟨v575, v578, v581, rfl, ho0, ho1, ho2, hb⟩; refine ⟨_, rfl, ?_⟩; have n0_ := Aside0.mk (Kd.R_below (by xkR_; exact HO_7.out) hb); have n1_ := Aside0.mk (Kd.R_elder' (by xkR_; exact HO_564001.out) (Kd.R_base ho0) hb); have n2_ := Aside0.mk (Kd.S_elder' (by xkS_; exact HO_564002.out) (Kd.S_base ho1) hb); have n3_ := Aside0.mk (Kd.R_elder' (by xkR_; exact HO_564003.out) (Kd.R_base ho2) hb); have n4_ := Aside0.mk (Kd.R_below (by xkR_; exact HO570.out) hb); have n5_ := Aside0.mk (Kd.R_lower (Kd.R_new' ho0 (Kd.R_lt (by xkR_; exact HO_564001.out))) (below_size (by repeat (first | (with_reducible first | exact HB.out | apply below_alloc | apply pw_below_drewN | apply below_drew1 | refine below_set ?_ GE543.out | refine below_set ?_ GE544.out | refine below_set ?_ GE563.out) | exact HB.out)))); have n6_ := Aside0.mk (Kd.S_lower (Kd.S_new' ho1 (Kd.S_lt (by xkS_; exact HO_564002.out))) (below_size (by repeat (first | (with_reducible first | exact HB.out | apply below_alloc | apply pw_below_drewN | apply below_drew1 | refine below_set ?_ GE543.out | refine below_set ?_ GE544.out | refine below_set ?_ GE563.out) | exact HB.out)))); have n7_ := Aside0.mk (Kd.R_lower (Kd.R_new' ho2 (Kd.R_lt (by xkR_; exact HO_564003.out))) (below_size (by repeat (first | (with_reducible first | exact HB.out | apply below_alloc | apply pw_below_drewN | apply below_drew1 | refine below_set ?_ GE543.out | refine below_set ?_ GE544.out | refine below_set ?_ GE563.out) | exact HB.out)))); have n8_ := Aside0.mk (blk_below (g := gb543) (o := .cells #[.int .i64 a0_0, .slice A0_1 l0_1.length c0_1, .slice A0_2 l0_2.length c0_2, .slice A0_3 l0_3.length c0_3] 26 (0, 0)) (by xkb_; exact BK543.out) hb); have n9_ := Aside0.mk (blk_below (g := gb544) (o := .cells #[.int .u16 a2_0, .int .u16 a2_1] 44 (0, 0)) (by xkb_; exact BK544.out) hb); have n10_ := Aside0.mk (blk_below (g := gb563) (o := .cells #[.int .i64 t552, .slice Ao40 t553.length co40, .slice Ao41 t556.length co41, .slice Ao42 t559.length co42] 26 (0, 0)) (by xkb_; exact BK563.out) hb); have n11_ := Aside0.mk (below_step (by repeat (first | (with_reducible first | exact HB.out | apply below_alloc | apply pw_below_drewN | apply below_drew1 | refine below_set ?_ GE543.out | refine below_set ?_ GE544.out | refine below_set ?_ GE563.out) | exact HB.out)) hb); clear HO_7; clear HO_564001; clear HO_564002; clear HO_564003; clear HO570; clear BK543; clear BK544; clear BK563; clear HB; have HO_7 := n0_; have HO_564001 := n1_; have HO_564002 := n2_; have HO_564003 := n3_; have HO570 := n4_; have HO576 := n5_; have HO579 := n6_; have HO582 := n7_; have BK543 := n8_; have BK544 := n9_; have BK563 := n10_; have HB := n11_; clear n0_ n1_ n2_ n3_ n4_ n5_ n6_ n7_ n8_ n9_ n10_ n11_; (try clear hb); (try clear hb2); (try clear hk); (try clear hi); (try clear ho0); (try clear ho1); (try clear ho2)) | ((with_reducible refine gate_dst (N := 13) rfl ?_); xgg_; refine box_event ?hg (N := 13) ?hd (cs := #[.int .i64 0, .slice none 0 0, .slice none 0 0, .slice none 0 0]) (t := 26) ?hr ?_; (case hd => rfl); (case hg => rfl); (case hr => xgs_); intro gb584 hg w92 hbox hb; have n0_ := Aside0.mk (Kd.R_below (by xkR_; exact HO_7.out) hb); have n1_ := Aside0.mk (Kd.R_below (by xkR_; exact HO_564001.out) hb); have n2_ := Aside0.mk (Kd.S_below (by xkS_; exact HO_564002.out) hb); have n3_ := Aside0.mk (Kd.R_below (by xkR_; exact HO_564003.out) hb); have n4_ := Aside0.mk (Kd.R_below (by xkR_; exact HO570.out) hb); have n5_ := Aside0.mk (Kd.R_below (by xkR_; exact HO576.out) hb); have n6_ := Aside0.mk (Kd.S_below (by xkS_; exact HO579.out) hb); have n7_ := Aside0.mk (Kd.R_below (by xkR_; exact HO582.out) hb); have n8_ := Aside0.mk (blk_below (g := gb543) (o := .cells #[.int .i64 a0_0, .slice A0_1 l0_1.length c0_1, .slice A0_2 l0_2.length c0_2, .slice A0_3 l0_3.length c0_3] 26 (0, 0)) (by xkb_; exact BK543.out) hb); have n9_ := Aside0.mk (blk_below (g := gb544) (o := .cells #[.int .u16 a2_0, .int .u16 a2_1] 44 (0, 0)) (by xkb_; exact BK544.out) hb); have n10_ := Aside0.mk (blk_below (g := gb563) (o := .cells #[.int .i64 t552, .slice Ao40 t553.length co40, .slice Ao41 t556.length co41, .slice Ao42 t559.length co42] 26 (0, 0)) (by xkb_; exact BK563.out) hb); have n11_ := Aside0.mk (below_step (by repeat (first | (with_reducible first | exact HB.out | apply below_alloc | apply pw_below_drewN | apply below_drew1 | refine below_set ?_ GE543.out | refine below_set ?_ GE544.out | refine below_set ?_ GE563.out) | exact HB.out)) hb); have n12_ := Aside0.mk (hbox); have n13_ := Aside0.mk ((by rw [hg]; exact (below_size (by repeat (first | (with_reducible first | exact HB.out | apply below_alloc | apply pw_below_drewN | apply below_drew1 | refine below_set ?_ GE543.out | refine below_set ?_ GE544.out | refine below_set ?_ GE563.out) | exact HB.out))) : w.heap.size ≤ gb584)); have n14_ := Aside0.mk ((by rw [hg]; exact (below_size (by repeat (first | (with_reducible first | exact HB.out | apply below_alloc | apply pw_below_drewN | apply below_drew1 | refine below_set ?_ GE543.out | refine below_set ?_ GE544.out | refine below_set ?_ GE563.out) | exact HB.out))) : w.heap.size ≤ gb584)); have n15_ := Aside0.mk ((by rw [hg]; exact Nat.ne_of_lt (blk_lt (g := gb543) (o := .cells #[.int .i64 a0_0, .slice A0_1 l0_1.length c0_1, .slice A0_2 l0_2.length c0_2, .slice A0_3 l0_3.length c0_3] 26 (0, 0)) (by xkb_; exact BK543.out)) : gb543 ≠ gb584)); have n16_ := Aside0.mk ((by rw [hg]; exact Nat.ne_of_gt (blk_lt (g := gb543) (o := .cells #[.int .i64 a0_0, .slice A0_1 l0_1.length c0_1, .slice A0_2 l0_2.length c0_2, .slice A0_3 l0_3.length c0_3] 26 (0, 0)) (by xkb_; exact BK543.out)) : gb584 ≠ gb543)); have n17_ := Aside0.mk ((by rw [hg]; exact Nat.ne_of_lt (blk_lt (g := gb544) (o := .cells #[.int .u16 a2_0, .int .u16 a2_1] 44 (0, 0)) (by xkb_; exact BK544.out)) : gb544 ≠ gb584)); have n18_ := Aside0.mk ((by rw [hg]; exact Nat.ne_of_gt (blk_lt (g := gb544) (o := .cells #[.int .u16 a2_0, .int .u16 a2_1] 44 (0, 0)) (by xkb_; exact BK544.out)) : gb584 ≠ gb544)); have n19_ := Aside0.mk ((by rw [hg]; exact Nat.ne_of_lt (blk_lt (g := gb563) (o := .cells #[.int .i64 t552, .slice Ao40 t553.length co40, .slice Ao41 t556.length co41, .slice Ao42 t559.length co42] 26 (0, 0)) (by xkb_; exact BK563.out)) : gb563 ≠ gb584)); have n20_ := Aside0.mk ((by rw [hg]; exact Nat.ne_of_gt (blk_lt (g := gb563) (o := .cells #[.int .i64 t552, .slice Ao40 t553.length co40, .slice Ao41 t556.length co41, .slice Ao42 t559.length co42] 26 (0, 0)) (by xkb_; exact BK563.out)) : gb584 ≠ gb563)); clear HO_7; clear HO_564001; clear HO_564002; clear HO_564003; clear HO570; clear HO576; clear HO579; clear HO582; clear BK543; clear BK544; clear BK563; clear HB; have HO_7 := n0_; have HO_564001 := n1_; have HO_564002 := n2_; have HO_564003 := n3_; have HO570 := n4_; have HO576 := n5_; have HO579 := n6_; have HO582 := n7_; have BK543 := n8_; have BK544 := n9_; have BK563 := n10_; have HB := n11_; have BK584 := n12_; have GW584 := n13_; have GE584 := n14_; have NB543_584 := n15_; have NB584_543 := n16_; have NB544_584 := n17_; have NB584_544 := n18_; have NB563_584 := n19_; have NB584_563 := n20_; clear n0_ n1_ n2_ n3_ n4_ n5_ n6_ n7_ n8_ n9_ n10_ n11_ n12_ n13_ n14_ n15_ n16_ n17_ n18_ n19_ n20_; clear hb hbox hg; have hnb93 := NB584_543.out; have hnc93 := NB543_584.out; have hnb94 := NB584_544.out; have hnc94 := NB544_584.out; have hnb95 := NB584_563.out; have hnc95 := NB563_584.out; have hcz96_0 : w92.cell? ⟨gb584, 0, none⟩ = some (.int .i64 0) := (blk_cell BK584.out 0).trans rfl; have hcz96_1 : w92.cell? ⟨gb584, 1, none⟩ = some (.slice none 0 0) := (blk_cell BK584.out 1).trans rfl; have hcz96_2 : w92.cell? ⟨gb584, 2, none⟩ = some (.slice none 0 0) := (blk_cell BK584.out 2).trans rfl; have hcz96_3 : w92.cell? ⟨gb584, 3, none⟩ = some (.slice none 0 0) := (blk_cell BK584.out 3).trans rfl; have hfz96_0 := blk_frozen BK584.out 0; have hfz96_1 := blk_frozen BK584.out 1; have hfz96_2 := blk_frozen BK584.out 2; have hfz96_3 := blk_frozen BK584.out 3; obtain ⟨Ao97, co97, eo97⟩ := Kd.R_slice HO576.out; subst eo97; obtain ⟨Ao98, co98, eo98⟩ := Kd.S_slice HO579.out; subst eo98; obtain ⟨Ao99, co99, eo99⟩ := Kd.R_slice HO582.out; subst eo99))
                   go_meet
                   case rel => exact ⟨_, H', ⟨by have := HJ3.out; have := HJ23.out; have := HJ32.out; have := HJ57.out; first | omega | exact Nat.le_refl _⟩, ⟨by xkb_; refine blk_far ?_ NB543_584.out _; xkb_; refine blk_far ?_ NB543_584.out _; xkb_; refine blk_far ?_ NB543_584.out _; xkb_; refine blk_far ?_ NB543_584.out _; xkb_; exact BK543.out⟩, ⟨by xkb_; refine blk_far ?_ NB544_584.out _; xkb_; refine blk_far ?_ NB544_584.out _; xkb_; refine blk_far ?_ NB544_584.out _; xkb_; refine blk_far ?_ NB544_584.out _; xkb_; exact BK544.out⟩, ⟨by repeat (first | (with_reducible first | exact HB.out | apply below_alloc | apply pw_below_drewN | apply below_drew1 | refine below_set ?_ GE543.out | refine below_set ?_ GE544.out | refine below_set ?_ GE563.out | refine below_set ?_ GE584.out) | exact HB.out)⟩⟩
                  ·rw [if_neg c83] at H
                   have c83b0 : (t583 == 23) = false := beq_eq_false_iff_ne.mpr c83
                   have c83b1 : (t583 != 23) = true := bne_iff_ne.mpr c83
                   by_cases c100 : t583 = 22
                   ·rw [if_pos c100] at H
                    have c100b0 : (t583 == 22) = true := beq_iff_eq.mpr c100
                    have c100b1 : (t583 != 22) = false := bne_eq_false_iff_eq.mpr c100
                    clear c100
                    have H' := Aside0.mk H
                    clear H
                    try go_wp2_with (first | ((with_reducible refine gate_dst (N := 97) rfl ?_); xgg_; refine Kd.R_lit (Kd.int .u8) _ 5 ?hg (N := 97) ?hd (xs := ([] : List Int)) (inner := []) (ok := fun _ => True) (okp := fun _ => True) ?hr ?hp (fun _ hk => hk) trivial (Below.refl _ _) (Nat.le_refl _) (by simp) ?_; (case hd => rfl); (case hg => rfl); (case hr => xgs_); (case hp => exact (Reps.none _ _)); intro v566 w101 ho102 hb hg_ hnew_; clear hg_ hnew_; (first | rw [← Ny565.out] at ho102 | (simp only [Int.reduceToNat] at ho102; rw [← Ny565.out] at ho102)); have n0_ := Aside0.mk (Kd.R_elder' (by xkR_; exact HO_7.out) (Kd.R_base ho102) hb); have n1_ := Aside0.mk (Kd.R_below (by xkR_; exact HO_564001.out) hb); have n2_ := Aside0.mk (Kd.S_below (by xkS_; exact HO_564002.out) hb); have n3_ := Aside0.mk (Kd.R_below (by xkR_; exact HO_564003.out) hb); have n4_ := Aside0.mk (Kd.R_lower (Kd.R_new' ho102 (Kd.R_lt (by xkR_; exact HO_7.out))) (below_size (by repeat (first | (with_reducible first | exact HB.out | apply below_alloc | apply pw_below_drewN | apply below_drew1 | refine below_set ?_ GE543.out | refine below_set ?_ GE544.out | refine below_set ?_ GE563.out) | exact HB.out)))); have n5_ := Aside0.mk (blk_below (g := gb543) (o := .cells #[.int .i64 a0_0, .slice A0_1 l0_1.length c0_1, .slice A0_2 l0_2.length c0_2, .slice A0_3 l0_3.length c0_3] 26 (0, 0)) (by xkb_; exact BK543.out) hb); have n6_ := Aside0.mk (blk_below (g := gb544) (o := .cells #[.int .u16 a2_0, .int .u16 a2_1] 44 (0, 0)) (by xkb_; exact BK544.out) hb); have n7_ := Aside0.mk (blk_below (g := gb563) (o := .cells #[.int .i64 t552, .slice Ao40 t553.length co40, .slice Ao41 t556.length co41, .slice Ao42 t559.length co42] 26 (0, 0)) (by xkb_; exact BK563.out) hb); have n8_ := Aside0.mk (below_step (by repeat (first | (with_reducible first | exact HB.out | apply below_alloc | apply pw_below_drewN | apply below_drew1 | refine below_set ?_ GE543.out | refine below_set ?_ GE544.out | refine below_set ?_ GE563.out) | exact HB.out)) hb); clear HO_7; clear HO_564001; clear HO_564002; clear HO_564003; clear BK543; clear BK544; clear BK563; clear HB; have HO_7 := n0_; have HO_564001 := n1_; have HO_564002 := n2_; have HO_564003 := n3_; have HO567 := n4_; have BK543 := n5_; have BK544 := n6_; have BK563 := n7_; have HB := n8_; clear n0_ n1_ n2_ n3_ n4_ n5_ n6_ n7_ n8_; clear hb ho102) | ((with_reducible refine gate_builtin (b := .append) (xs := #[.tmp 97, .tmp 98]) rfl ?_); xgg_; at_builtin; refine Kd.R_append_rows (Kd.int .u8) (w0 := w) w.heap.size rfl (.tmp 97) (.tmp 98) 27 5 (.int .u8 0) 1 rfl Try.underlying27 info5 rfl (by decide) (by omega) v566 y565 t547 _ _ _ (fun k_ => some k_ ≠ (.slice Ao34 t547.length co34 : Value).ownBlock) (fun _ => False) rfl rfl ?aO ?aR (fun _ _ h => h) (fun _ h => h.elim) ?aF ?aB ?aS ?aL ?_; (case aR => repeat (first | exact (Kd.R_reads' HO_7.out).2.2 | xkC_)); (case aB => exact (by repeat (first | (with_reducible first | exact HB.out | apply below_alloc | apply pw_below_drewN | apply below_drew1 | refine below_set ?_ GE543.out | refine below_set ?_ GE544.out | refine below_set ?_ GE563.out) | exact HB.out))); (case aF => exact (fun k_ hk => Kd.fresh' (Kd.R_lt (by xkR_; exact HO_7.out)) k_ hk)); (case aO => exact (by xkR_; exact Kd.R_mono HO567.out (fun _ hk => hk.2))); (case aS => exact (below_size (by repeat (first | (with_reducible first | exact HB.out | apply below_alloc | apply pw_below_drewN | apply below_drew1 | refine below_set ?_ GE543.out | refine below_set ?_ GE544.out | refine below_set ?_ GE563.out) | exact HB.out)))); (case aL => have := LMc76.out; omega); intro v569 w103 ho hb hg hat; rw [← Ny568.out] at ho; have n0_ := Aside0.mk (Kd.R_after (ok := (fun _ => True)) (by xkR_; exact HO_7.out) hg hat); have n1_ := Aside0.mk (Kd.R_over' (by xkR_; exact HO_564001.out) (Kd.R_typed (by xkR_; exact HO567.out)) (by decide) hg); have n2_ := Aside0.mk (Kd.S_over' (by xkS_; exact HO_564002.out) (Kd.R_typed (by xkR_; exact HO567.out)) (by decide) hg); have n3_ := Aside0.mk (Kd.R_over' (by xkR_; exact HO_564003.out) (Kd.R_typed (by xkR_; exact HO567.out)) (by decide) hg); have n4_ := Aside0.mk (blk_grown (g := gb543) (o := .cells #[.int .i64 a0_0, .slice A0_1 l0_1.length c0_1, .slice A0_2 l0_2.length c0_2, .slice A0_3 l0_3.length c0_3] 26 (0, 0)) (by xkb_; exact BK543.out) hg (Kd.R_ne HO567.out BK543.out (by decide))); have n5_ := Aside0.mk (blk_grown (g := gb544) (o := .cells #[.int .u16 a2_0, .int .u16 a2_1] 44 (0, 0)) (by xkb_; exact BK544.out) hg (Kd.R_ne HO567.out BK544.out (by decide))); have n6_ := Aside0.mk (blk_grown (g := gb563) (o := .cells #[.int .i64 t552, .slice Ao40 t553.length co40, .slice Ao41 t556.length co41, .slice Ao42 t559.length co42] 26 (0, 0)) (by xkb_; exact BK563.out) hg (Kd.R_ne HO567.out BK563.out (by decide))); have n7_ := Aside0.mk (hb); have n8_ := Aside0.mk (ho); clear HO_7; clear HO_564001; clear HO_564002; clear HO_564003; clear BK543; clear BK544; clear BK563; clear HB; clear HO567; have HO_7 := n0_; have HO_564001 := n1_; have HO_564002 := n2_; have HO_564003 := n3_; have BK543 := n4_; have BK544 := n5_; have BK563 := n6_; have HB := n7_; have HO570 := n8_; clear n0_ n1_ n2_ n3_ n4_ n5_ n6_ n7_ n8_; clear ho hb hg hat))
                    have n0_ := Aside0.mk (Kd.R_drew HO_7.out)
                    have n1_ := Aside0.mk (Kd.R_drew HO_564001.out)
                    have n2_ := Aside0.mk (Kd.S_drew HO_564002.out)
                    have n3_ := Aside0.mk (Kd.R_drew HO_564003.out)
                    have n4_ := Aside0.mk (Kd.R_drew HO570.out)
                    have n5_ := Aside0.mk (blk_drew BK543.out)
                    have n6_ := Aside0.mk (blk_drew BK544.out)
                    have n7_ := Aside0.mk (blk_drew BK563.out)
                    have n8_ := Aside0.mk (below_drew1 HB.out)
                    clear HO_7
                    clear HO_564001
                    clear HO_564002
                    clear HO_564003
                    clear HO570
                    clear BK543
                    clear BK544
                    clear BK563
                    clear HB
                    have HO_7 := n0_
                    have HO_564001 := n1_
                    have HO_564002 := n2_
                    have HO_564003 := n3_
                    have HO570 := n4_
                    have BK543 := n5_
                    have BK544 := n6_
                    have BK563 := n7_
                    have HB := n8_
                    clear n0_ n1_ n2_ n3_ n4_ n5_ n6_ n7_ n8_
                    obtain ⟨Ao105, co105, eo105⟩ := Kd.R_slice HO570.out
                    (first | subst eo105 | (injection eo105 with f1_ f2_ f3_; have f4_ := f1_.symm; have f5_ := f3_.symm; clear f1_ f2_ f3_; subst f4_; subst f5_))
                    have p571 : 0 ≤ ((ji78) : Int) := of_decide_eq_true (by xas_)
                    have q571 : (ji78) < (y568.length : Int) := of_decide_eq_true (by xas_)
                    obtain ⟨ad571, e571, hx571_0⟩ := Kd.at_int (Kd.R_reads' HO570.out).2.2 (ji78) p571 q571
                    cases e571
                    replace p571 := eq_true p571
                    replace q571 := eq_true q571
                    have p81 : 0 ≤ ((ji78) : Int) := of_decide_eq_true (by xas_)
                    have q81 : ((ji78) : Int) < ((y568.length : Int) : Int) := of_decide_eq_true (by xas_)
                    obtain ⟨go81, co81, eo81, gb81, gl81, cl81, HG81⟩ := Kd.R_form HO570.out (by omega)
                    (first | cases eo81 | (injection eo81 with ea_ en_ ec_; (first | subst ea_ | (injection ea_ with ea_; subst ea_)); subst ec_; clear en_))
                    have GB81 := Aside0.mk gb81
                    have GG81 := Aside0.mk HG81
                    clear gb81 gl81 HG81
                    (first | simp only [add_plain] at hx571_0 | skip)
                    obtain ⟨hx81_0, hf81_0⟩ := Kd.R_celln 0 HO570.out ((ji78) : Int) p81 q81
                    replace p81 := eq_true p81
                    replace q81 := eq_true q81
                    have HP106 := Kd.R_putn HO570.out ((ji78) : Int) (Go.bits .xor .u8 (rd y568 (ji78)) ((1 + ((Int.tmod a2_1 255) % 256)) % 256))
                    rw [← Ny572.out] at HP106
                    have HQ106 := Aside0.mk HP106
                    clear HP106
                    refine start_ (n := 17) (S := fun w' => w'.cell? ⟨gb544, 0, none⟩ = some (.int .u16 a2_0) ∧ w'.cell? ⟨gb544, 1, none⟩ = some (.int .u16 a2_1) ∧ w'.cell? ⟨go81, ((ji78)).toNat, none⟩ = some (.int .u8 (rd y568 (ji78)))) (ds := [16]) #[false, false, false, false, false, false, false, false, false, false, false, false, false, false, false, false, false] (by kernel_rfl) rfl rfl ⟨(blk_cell BK544.out 0).trans rfl, (blk_cell BK544.out 1).trans rfl, hx571_0⟩ (fun hHeld => ?_); refine with_tabW caesuralaw06_TableBack.tab12 caesuralaw06_TableBack.bits12 (fun HT_ HW_ => ?_)
                    generalize w103.drew = w104 at HO_7 HO_564001 HO_564002 HO_564003 HO570 BK543 BK544 BK563 HB GG81 HQ106 hf81_0 hx571_0 hx81_0 hHeld ⊢
                    refine pure_ (i := 0) (N := some 100) (v := ?_) (a' := ?_) #[true, false, false, false, false, false, false, false, false, false, false, false, false, false, false, false, false] rfl rfl (any_of HT_.out (by kernel_rfl)) (fun _ _ _ h => h) (Or.inl ⟨by rfl, ?_⟩) ?_ ?_
                    rotate_left
                    ·intro w'
                     go_simp
                     with_reducible rfl
                    rotate_left
                    ·xsp_ i64_w i32_w
                     rfl
                    refine pure_ (i := 1) (N := some 101) (v := ?_) (a' := ?_) #[true, true, false, false, false, false, false, false, false, false, false, false, false, false, false, false, false] rfl rfl (any_of HT_.out (by kernel_rfl)) (fun _ _ _ h => h) (Or.inl ⟨by rfl, ?_⟩) ?_ ?_
                    rotate_left
                    ·intro w'
                     go_simp
                     with_reducible rfl
                    rotate_left
                    ·xsp_ i64_w i32_w
                     rfl
                    refine pure_ (i := 4) (N := some 104) (v := ?_) (a' := ?_) #[true, true, false, false, true, false, false, false, false, false, false, false, false, false, false, false, false] rfl rfl (any_of HT_.out (by kernel_rfl)) (fun _ _ _ h => h) (Or.inl ⟨by rfl, ?_⟩) ?_ ?_
                    rotate_left
                    ·intro w'
                     go_simp
                     with_reducible rfl
                    rotate_left
                    ·xsp_ i64_w i32_w
                     rfl
                    refine pure_ (i := 5) (N := some 105) (v := ?_) (a' := ?_) #[true, true, false, false, true, true, false, false, false, false, false, false, false, false, false, false, false] rfl rfl (any_of HT_.out (by kernel_rfl)) (fun _ _ _ h => h) (Or.inl ⟨by rfl, ?_⟩) ?_ ?_
                    rotate_left
                    ·intro w'
                     go_simp
                     with_reducible rfl
                    rotate_left
                    ·xsp_ i64_w i32_w
                     rfl
                    refine pure_ (i := 9) (N := some 109) (v := ?_) (a' := ?_) #[true, true, false, false, true, true, false, false, false, true, false, false, false, false, false, false, false] rfl rfl (any_of HT_.out (by kernel_rfl)) (fun _ _ _ h => h) (Or.inl ⟨by rfl, ?_⟩) ?_ ?_
                    rotate_left
                    ·intro w'
                     go_simp
                     with_reducible rfl
                    rotate_left
                    ·xsp_ i64_w i32_w
                     rfl
                    refine take_ (i := 2) (N := some 102) (v := ?_) (a' := ?_) #[true, true, true, false, true, true, false, false, false, true, false, false, false, false, false, false, false] rfl rfl (take_ofW HT_.out HW_.out (by kernel_rfl)) (fun _ _ _ h => h) (Or.inl ⟨by rfl, ?_⟩) hHeld ?_ ?_
                    rotate_left
                    ·rintro w' ⟨s0, s1, s2⟩
                     go_simp
                     with_reducible rfl
                    rotate_left
                    ·xsp_ i64_w i32_w
                     rfl
                    refine pure_ (i := 3) (N := some 103) (v := ?_) (a' := ?_) #[true, true, true, true, true, true, false, false, false, true, false, false, false, false, false, false, false] rfl rfl (any_of HT_.out (by kernel_rfl)) (fun _ _ _ h => h) (Or.inl ⟨by rfl, ?_⟩) ?_ ?_
                    rotate_left
                    ·intro w'
                     go_simp
                     with_reducible rfl
                    rotate_left
                    ·xsp_ i64_w i32_w
                     rfl
                    refine pure_ (i := 6) (N := some 106) (v := ?_) (a' := ?_) #[true, true, true, true, true, true, true, false, false, true, false, false, false, false, false, false, false] rfl rfl (any_of HT_.out (by kernel_rfl)) (fun _ _ _ h => h) (Or.inl ⟨by rfl, ?_⟩) ?_ ?_
                    rotate_left
                    ·intro w'
                     go_simp
                     with_reducible rfl
                    rotate_left
                    ·xsp_ i64_w i32_w
                     rfl
                    refine pure_ (i := 7) (N := some 107) (v := ?_) (a' := ?_) #[true, true, true, true, true, true, true, true, false, true, false, false, false, false, false, false, false] rfl rfl (any_of HT_.out (by kernel_rfl)) (fun _ _ _ h => h) (Or.inl ⟨by rfl, ?_⟩) ?_ ?_
                    rotate_left
                    ·intro w'
                     go_simp
                     with_reducible rfl
                    rotate_left
                    ·xsp_ i64_w i32_w
                     rfl
                    refine take_ (i := 8) (N := some 108) (v := ?_) (a' := ?_) #[true, true, true, true, true, true, true, true, true, true, false, false, false, false, false, false, false] rfl rfl (take_ofW HT_.out HW_.out (by kernel_rfl)) (fun _ _ _ h => h) (Or.inl ⟨by rfl, ?_⟩) hHeld ?_ ?_
                    rotate_left
                    ·rintro w' ⟨s0, s1, s2⟩
                     go_simp
                     with_reducible rfl
                    rotate_left
                    ·xsp_ i64_w i32_w
                     rfl
                    refine take_ (i := 10) (N := some 110) (v := ?_) (a' := ?_) #[true, true, true, true, true, true, true, true, true, true, true, false, false, false, false, false, false] rfl rfl (take_ofW HT_.out HW_.out (by kernel_rfl)) (fun _ _ _ h => h) (Or.inl ⟨by rfl, ?_⟩) hHeld ?_ ?_
                    rotate_left
                    ·rintro w' ⟨s0, s1, s2⟩
                     go_simp
                     with_reducible rfl
                    rotate_left
                    ·xsp_ i64_w i32_w
                     rfl
                    refine pure_ (i := 11) (N := some 111) (v := ?_) (a' := ?_) #[true, true, true, true, true, true, true, true, true, true, true, true, false, false, false, false, false] rfl rfl (any_of HT_.out (by kernel_rfl)) (fun _ _ _ h => h) (Or.inl ⟨by rfl, ?_⟩) ?_ ?_
                    rotate_left
                    ·intro w'
                     go_simp
                     with_reducible rfl
                    rotate_left
                    ·xsp_ i64_w i32_w
                     rfl
                    refine pure_ (i := 12) (N := some 112) (v := ?_) (a' := ?_) #[true, true, true, true, true, true, true, true, true, true, true, true, true, false, false, false, false] rfl rfl (any_of HT_.out (by kernel_rfl)) (fun _ _ _ h => h) (Or.inl ⟨by rfl, ?_⟩) ?_ ?_
                    rotate_left
                    ·intro w'
                     go_simp
                     with_reducible rfl
                    rotate_left
                    ·xsp_ i64_w i32_w
                     rfl
                    refine pure_ (i := 13) (N := some 113) (v := ?_) (a' := ?_) #[true, true, true, true, true, true, true, true, true, true, true, true, true, true, false, false, false] rfl rfl (any_of HT_.out (by kernel_rfl)) (fun _ _ _ h => h) (Or.inl ⟨by rfl, ?_⟩) ?_ ?_
                    rotate_left
                    ·intro w'
                     go_simp
                     with_reducible rfl
                    rotate_left
                    ·xsp_ i64_w i32_w
                     rfl
                    refine pure_ (i := 14) (N := some 114) (v := ?_) (a' := ?_) #[true, true, true, true, true, true, true, true, true, true, true, true, true, true, true, false, false] rfl rfl (any_of HT_.out (by kernel_rfl)) (fun _ _ _ h => h) (Or.inl ⟨by rfl, ?_⟩) ?_ ?_
                    rotate_left
                    ·intro w'
                     go_simp
                     with_reducible rfl
                    rotate_left
                    ·xsp_ i64_w i32_w
                     rfl
                    refine pure_ (i := 15) (N := some 115) (v := ?_) (a' := ?_) #[true, true, true, true, true, true, true, true, true, true, true, true, true, true, true, true, false] rfl rfl (any_of HT_.out (by kernel_rfl)) (fun _ _ _ h => h) (Or.inl ⟨by rfl, ?_⟩) ?_ ?_
                    rotate_left
                    ·intro w'
                     go_simp
                     with_reducible rfl
                    rotate_left
                    ·xsp_ i64_w i32_w
                     rfl
                    refine last_ (i := 16) (N := none) #[true, true, true, true, true, true, true, true, true, true, true, true, true, true, true, true, true] rfl rfl (one_of HT_.out (by kernel_rfl)) (by decide) (fun K hK => ?_)
                    refine skip_ (w1 := ?_) (by rfl) rfl ?_ ?_
                    rotate_left
                    ·go_simp
                     rfl
                    refine hK.out _ _ ?_
                    clear hK K
                    refine done_ (done_of HT_.out (by kernel_rfl)) ?_
                    have n0_ : Aside0 (Kd.R (Kd.int .u8) 5 (w104.setCell ⟨go81, ((ji78) : Int).toNat, none⟩ (.int .u8 (Go.bits .xor .u8 (rd y568 (ji78)) ((1 + ((Int.tmod a2_1 255) % 256)) % 256)))) w.heap.size (fun k_ => some k_ ≠ (.slice (some ⟨go81, 0, none⟩) y568.length co105 : Value).ownBlock) (.slice Ao34 t547.length co34) t547) := ⟨by xkR_; exact Kd.R_mono (Kd.R_far (p := ⟨go81, ((ji78) : Int).toNat, none⟩) (Kd.R_mono HO_7.out (fun k_ hk => (⟨hk, fun e_ => hk.2 (by rw [e_]; rfl)⟩ : _ ∧ k_ ≠ go81))) (fun _ hk => hk.2) (.int .u8 (Go.bits .xor .u8 (rd y568 (ji78)) ((1 + ((Int.tmod a2_1 255) % 256)) % 256)))) (fun _ hk => hk.1.2)⟩
                    have n1_ : Aside0 (Kd.R k52 52 (w104.setCell ⟨go81, ((ji78) : Int).toNat, none⟩ (.int .u8 (Go.bits .xor .u8 (rd y568 (ji78)) ((1 + ((Int.tmod a2_1 255) % 256)) % 256)))) w.heap.size (fun _ => True) (.slice Ao40 t553.length co40) t553) := ⟨by xkR_; exact Kd.R_mono (Kd.R_far (p := ⟨go81, ((ji78) : Int).toNat, none⟩) (Kd.R_types HO_564001.out GG81.out (by decide)) (fun _ hk => hk.2) (.int .u8 (Go.bits .xor .u8 (rd y568 (ji78)) ((1 + ((Int.tmod a2_1 255) % 256)) % 256)))) (fun _ hk => trivial)⟩
                    have n2_ : Aside0 (Kd.S (Kd.slice 3 (Kd.int .i64)) 53 (w104.setCell ⟨go81, ((ji78) : Int).toNat, none⟩ (.int .u8 (Go.bits .xor .u8 (rd y568 (ji78)) ((1 + ((Int.tmod a2_1 255) % 256)) % 256)))) w.heap.size (fun _ => True) (.slice Ao41 t556.length co41) t556) := ⟨by xkS_; exact Kd.S_mono (Kd.S_far (p := ⟨go81, ((ji78) : Int).toNat, none⟩) (Kd.S_types HO_564002.out GG81.out (by decide)) (fun _ hk => hk.2) (.int .u8 (Go.bits .xor .u8 (rd y568 (ji78)) ((1 + ((Int.tmod a2_1 255) % 256)) % 256)))) (fun _ hk => trivial)⟩
                    have n3_ : Aside0 (Kd.R Kd.bool 4 (w104.setCell ⟨go81, ((ji78) : Int).toNat, none⟩ (.int .u8 (Go.bits .xor .u8 (rd y568 (ji78)) ((1 + ((Int.tmod a2_1 255) % 256)) % 256)))) w.heap.size (fun _ => True) (.slice Ao42 t559.length co42) t559) := ⟨by xkR_; exact Kd.R_mono (Kd.R_far (p := ⟨go81, ((ji78) : Int).toNat, none⟩) (Kd.R_types HO_564003.out GG81.out (by decide)) (fun _ hk => hk.2) (.int .u8 (Go.bits .xor .u8 (rd y568 (ji78)) ((1 + ((Int.tmod a2_1 255) % 256)) % 256)))) (fun _ hk => trivial)⟩
                    have n4_ : Aside0 (Kd.R (Kd.int .u8) 5 (w104.setCell ⟨go81, ((ji78) : Int).toNat, none⟩ (.int .u8 (Go.bits .xor .u8 (rd y568 (ji78)) ((1 + ((Int.tmod a2_1 255) % 256)) % 256)))) w.heap.size (fun k_ => some k_ ≠ (.slice Ao34 t547.length co34 : Value).ownBlock) (.slice (some ⟨go81, 0, none⟩) y568.length co105) y572) := ⟨by xkR_; exact HQ106.out⟩
                    have n5_ : Aside0 ((w104.setCell ⟨go81, ((ji78) : Int).toNat, none⟩ (.int .u8 (Go.bits .xor .u8 (rd y568 (ji78)) ((1 + ((Int.tmod a2_1 255) % 256)) % 256)))).heap[gb543]? = some (.cells #[.int .i64 a0_0, .slice A0_1 l0_1.length c0_1, .slice A0_2 l0_2.length c0_2, .slice A0_3 l0_3.length c0_3] 26 (0, 0))) := ⟨by xkb_; refine blk_far ?_ (by have h_ := Kd.R_ne HO570.out BK543.out (by decide); intro e_; exact h_ (by rw [e_]; rfl)) _; xkb_; exact BK543.out⟩
                    have n6_ : Aside0 ((w104.setCell ⟨go81, ((ji78) : Int).toNat, none⟩ (.int .u8 (Go.bits .xor .u8 (rd y568 (ji78)) ((1 + ((Int.tmod a2_1 255) % 256)) % 256)))).heap[gb544]? = some (.cells #[.int .u16 a2_0, .int .u16 a2_1] 44 (0, 0))) := ⟨by xkb_; refine blk_far ?_ (by have h_ := Kd.R_ne HO570.out BK544.out (by decide); intro e_; exact h_ (by rw [e_]; rfl)) _; xkb_; exact BK544.out⟩
                    have n7_ : Aside0 ((w104.setCell ⟨go81, ((ji78) : Int).toNat, none⟩ (.int .u8 (Go.bits .xor .u8 (rd y568 (ji78)) ((1 + ((Int.tmod a2_1 255) % 256)) % 256)))).heap[gb563]? = some (.cells #[.int .i64 t552, .slice Ao40 t553.length co40, .slice Ao41 t556.length co41, .slice Ao42 t559.length co42] 26 (0, 0))) := ⟨by xkb_; refine blk_far ?_ (by have h_ := Kd.R_ne HO570.out BK563.out (by decide); intro e_; exact h_ (by rw [e_]; rfl)) _; xkb_; exact BK563.out⟩
                    have n8_ : Aside0 (Below w.heap.size w (w104.setCell ⟨go81, ((ji78) : Int).toNat, none⟩ (.int .u8 (Go.bits .xor .u8 (rd y568 (ji78)) ((1 + ((Int.tmod a2_1 255) % 256)) % 256))))) := ⟨by repeat (first | (with_reducible first | exact HB.out | apply below_alloc | apply pw_below_drewN | apply below_drew1 | refine below_set ?_ GB81.out | refine below_set ?_ GE543.out | refine below_set ?_ GE544.out | refine below_set ?_ GE563.out) | exact HB.out)⟩
                    (try clear HO_7)
                    (try clear HO_564001)
                    (try clear HO_564002)
                    (try clear HO_564003)
                    (try clear HO570)
                    (try clear BK543)
                    (try clear BK544)
                    (try clear BK563)
                    (try clear HB)
                    (try simp only [IntKind.wrap_u8, IntKind.wrap_u16, IntKind.wrap_u32])
                    generalize (w104.setCell ⟨go81, ((ji78) : Int).toNat, none⟩ (.int .u8 (Go.bits .xor .u8 (rd y568 (ji78)) ((1 + ((Int.tmod a2_1 255) % 256)) % 256)))) = w107 at n0_ n1_ n2_ n3_ n4_ n5_ n6_ n7_ n8_ ⊢
                    have HO_7 := n0_
                    have HO_564001 := n1_
                    have HO_564002 := n2_
                    have HO_564003 := n3_
                    have HO570 := n4_
                    have BK543 := n5_
                    have BK544 := n6_
                    have BK563 := n7_
                    have HB := n8_
                    clear n0_ n1_ n2_ n3_ n4_ n5_ n6_ n7_ n8_
                    try go_wp2_with (first | ((with_reducible refine gate_callee (f := 14) rfl ?_); refine goesL_ (some 118) rfl rfl Try.func14 (by kernel_rfl) rfl #[.slice (some ⟨go81, 0, none⟩) y572.length co105] rfl (by (try simp only [List.map_toArray, List.map_cons, List.map_nil]); first | done | (rw [show y572.length = y568.length from (Kd.R_reads' HO570.out).1.symm] <;> rfl) | rfl | (simp only [List.length_drop, List.length_take]; rfl)) ?_; (with_reducible refine (table_Decode.calls kj57 _ _ y572 t573 t574 t577 t580 t583 _ ?side1 ?side2 A82.out).mono ?_); (case side1 => repeat (first | exact (Kd.R_reads' HO570.out).2.2 | xkC_)); (case side2 => rw [show y572.length = y568.length from (Kd.R_reads' HO570.out).1.symm]; exact (Kd.R_reads' HO570.out).2.1); rintro e w108 ⟨v575, v578, v581, rfl, ho0, ho1, ho2, hb⟩; refine ⟨_, rfl, ?_⟩; have n0_ := Aside0.mk (Kd.R_below (by xkR_; exact HO_7.out) hb); have n1_ := Aside0.mk (Kd.R_elder' (by xkR_; exact HO_564001.out) (Kd.R_base ho0) hb); have n2_ := Aside0.mk (Kd.S_elder' (by xkS_; exact HO_564002.out) (Kd.S_base ho1) hb); have n3_ := Aside0.mk (Kd.R_elder' (by xkR_; exact HO_564003.out) (Kd.R_base ho2) hb); have n4_ := Aside0.mk (Kd.R_below (by xkR_; exact HO570.out) hb); have n5_ := Aside0.mk (Kd.R_lower (Kd.R_new' ho0 (Kd.R_lt (by xkR_; exact HO_564001.out))) (below_size (by repeat (first | (with_reducible first | exact HB.out | apply below_alloc | apply pw_below_drewN | apply below_drew1 | refine below_set ?_ GE543.out | refine below_set ?_ GE544.out | refine below_set ?_ GE563.out) | exact HB.out)))); have n6_ := Aside0.mk (Kd.S_lower (Kd.S_new' ho1 (Kd.S_lt (by xkS_; exact HO_564002.out))) (below_size (by repeat (first | (with_reducible first | exact HB.out | apply below_alloc | apply pw_below_drewN | apply below_drew1 | refine below_set ?_ GE543.out | refine below_set ?_ GE544.out | refine below_set ?_ GE563.out) | exact HB.out)))); have n7_ := Aside0.mk (Kd.R_lower (Kd.R_new' ho2 (Kd.R_lt (by xkR_; exact HO_564003.out))) (below_size (by repeat (first | (with_reducible first | exact HB.out | apply below_alloc | apply pw_below_drewN | apply below_drew1 | refine below_set ?_ GE543.out | refine below_set ?_ GE544.out | refine below_set ?_ GE563.out) | exact HB.out)))); have n8_ := Aside0.mk (blk_below (g := gb543) (o := .cells #[.int .i64 a0_0, .slice A0_1 l0_1.length c0_1, .slice A0_2 l0_2.length c0_2, .slice A0_3 l0_3.length c0_3] 26 (0, 0)) (by xkb_; exact BK543.out) hb); have n9_ := Aside0.mk (blk_below (g := gb544) (o := .cells #[.int .u16 a2_0, .int .u16 a2_1] 44 (0, 0)) (by xkb_; exact BK544.out) hb); have n10_ := Aside0.mk (blk_below (g := gb563) (o := .cells #[.int .i64 t552, .slice Ao40 t553.length co40, .slice Ao41 t556.length co41, .slice Ao42 t559.length co42] 26 (0, 0)) (by xkb_; exact BK563.out) hb); have n11_ := Aside0.mk (below_step (by repeat (first | (with_reducible first | exact HB.out | apply below_alloc | apply pw_below_drewN | apply below_drew1 | refine below_set ?_ GE543.out | refine below_set ?_ GE544.out | refine below_set ?_ GE563.out) | exact HB.out)) hb); clear HO_7; clear HO_564001; clear HO_564002; clear HO_564003; clear HO570; clear BK543; clear BK544; clear BK563; clear HB; have HO_7 := n0_; have HO_564001 := n1_; have HO_564002 := n2_; have HO_564003 := n3_; have HO570 := n4_; have HO576 := n5_; have HO579 := n6_; have HO582 := n7_; have BK543 := n8_; have BK544 := n9_; have BK563 := n10_; have HB := n11_; clear n0_ n1_ n2_ n3_ n4_ n5_ n6_ n7_ n8_ n9_ n10_ n11_; (try clear hb); (try clear hb2); (try clear hk); (try clear hi); (try clear ho0); (try clear ho1); (try clear ho2)) | ((with_reducible refine gate_dst (N := 13) rfl ?_); xgg_; refine box_event ?hg (N := 13) ?hd (cs := #[.int .i64 0, .slice none 0 0, .slice none 0 0, .slice none 0 0]) (t := 26) ?hr ?_; (case hd => rfl); (case hg => rfl); (case hr => xgs_); intro gb584 hg w109 hbox hb; have n0_ := Aside0.mk (Kd.R_below (by xkR_; exact HO_7.out) hb); have n1_ := Aside0.mk (Kd.R_below (by xkR_; exact HO_564001.out) hb); have n2_ := Aside0.mk (Kd.S_below (by xkS_; exact HO_564002.out) hb); have n3_ := Aside0.mk (Kd.R_below (by xkR_; exact HO_564003.out) hb); have n4_ := Aside0.mk (Kd.R_below (by xkR_; exact HO570.out) hb); have n5_ := Aside0.mk (Kd.R_below (by xkR_; exact HO576.out) hb); have n6_ := Aside0.mk (Kd.S_below (by xkS_; exact HO579.out) hb); have n7_ := Aside0.mk (Kd.R_below (by xkR_; exact HO582.out) hb); have n8_ := Aside0.mk (blk_below (g := gb543) (o := .cells #[.int .i64 a0_0, .slice A0_1 l0_1.length c0_1, .slice A0_2 l0_2.length c0_2, .slice A0_3 l0_3.length c0_3] 26 (0, 0)) (by xkb_; exact BK543.out) hb); have n9_ := Aside0.mk (blk_below (g := gb544) (o := .cells #[.int .u16 a2_0, .int .u16 a2_1] 44 (0, 0)) (by xkb_; exact BK544.out) hb); have n10_ := Aside0.mk (blk_below (g := gb563) (o := .cells #[.int .i64 t552, .slice Ao40 t553.length co40, .slice Ao41 t556.length co41, .slice Ao42 t559.length co42] 26 (0, 0)) (by xkb_; exact BK563.out) hb); have n11_ := Aside0.mk (below_step (by repeat (first | (with_reducible first | exact HB.out | apply below_alloc | apply pw_below_drewN | apply below_drew1 | refine below_set ?_ GE543.out | refine below_set ?_ GE544.out | refine below_set ?_ GE563.out) | exact HB.out)) hb); have n12_ := Aside0.mk (hbox); have n13_ := Aside0.mk ((by rw [hg]; exact (below_size (by repeat (first | (with_reducible first | exact HB.out | apply below_alloc | apply pw_below_drewN | apply below_drew1 | refine below_set ?_ GE543.out | refine below_set ?_ GE544.out | refine below_set ?_ GE563.out) | exact HB.out))) : w.heap.size ≤ gb584)); have n14_ := Aside0.mk ((by rw [hg]; exact (below_size (by repeat (first | (with_reducible first | exact HB.out | apply below_alloc | apply pw_below_drewN | apply below_drew1 | refine below_set ?_ GE543.out | refine below_set ?_ GE544.out | refine below_set ?_ GE563.out) | exact HB.out))) : w.heap.size ≤ gb584)); have n15_ := Aside0.mk ((by rw [hg]; exact Nat.ne_of_lt (blk_lt (g := gb543) (o := .cells #[.int .i64 a0_0, .slice A0_1 l0_1.length c0_1, .slice A0_2 l0_2.length c0_2, .slice A0_3 l0_3.length c0_3] 26 (0, 0)) (by xkb_; exact BK543.out)) : gb543 ≠ gb584)); have n16_ := Aside0.mk ((by rw [hg]; exact Nat.ne_of_gt (blk_lt (g := gb543) (o := .cells #[.int .i64 a0_0, .slice A0_1 l0_1.length c0_1, .slice A0_2 l0_2.length c0_2, .slice A0_3 l0_3.length c0_3] 26 (0, 0)) (by xkb_; exact BK543.out)) : gb584 ≠ gb543)); have n17_ := Aside0.mk ((by rw [hg]; exact Nat.ne_of_lt (blk_lt (g := gb544) (o := .cells #[.int .u16 a2_0, .int .u16 a2_1] 44 (0, 0)) (by xkb_; exact BK544.out)) : gb544 ≠ gb584)); have n18_ := Aside0.mk ((by rw [hg]; exact Nat.ne_of_gt (blk_lt (g := gb544) (o := .cells #[.int .u16 a2_0, .int .u16 a2_1] 44 (0, 0)) (by xkb_; exact BK544.out)) : gb584 ≠ gb544)); have n19_ := Aside0.mk ((by rw [hg]; exact Nat.ne_of_lt (blk_lt (g := gb563) (o := .cells #[.int .i64 t552, .slice Ao40 t553.length co40, .slice Ao41 t556.length co41, .slice Ao42 t559.length co42] 26 (0, 0)) (by xkb_; exact BK563.out)) : gb563 ≠ gb584)); have n20_ := Aside0.mk ((by rw [hg]; exact Nat.ne_of_gt (blk_lt (g := gb563) (o := .cells #[.int .i64 t552, .slice Ao40 t553.length co40, .slice Ao41 t556.length co41, .slice Ao42 t559.length co42] 26 (0, 0)) (by xkb_; exact BK563.out)) : gb584 ≠ gb563)); clear HO_7; clear HO_564001; clear HO_564002; clear HO_564003; clear HO570; clear HO576; clear HO579; clear HO582; clear BK543; clear BK544; clear BK563; clear HB; have HO_7 := n0_; have HO_564001 := n1_; have HO_564002 := n2_; have HO_564003 := n3_; have HO570 := n4_; have HO576 := n5_; have HO579 := n6_; have HO582 := n7_; have BK543 := n8_; have BK544 := n9_; have BK563 := n10_; have HB := n11_; have BK584 := n12_; have GW584 := n13_; have GE584 := n14_; have NB543_584 := n15_; have NB584_543 := n16_; have NB544_584 := n17_; have NB584_544 := n18_; have NB563_584 := n19_; have NB584_563 := n20_; clear n0_ n1_ n2_ n3_ n4_ n5_ n6_ n7_ n8_ n9_ n10_ n11_ n12_ n13_ n14_ n15_ n16_ n17_ n18_ n19_ n20_; clear hb hbox hg; have hnb110 := NB584_543.out; have hnc110 := NB543_584.out; have hnb111 := NB584_544.out; have hnc111 := NB544_584.out; have hnb112 := NB584_563.out; have hnc112 := NB563_584.out; have hcz113_0 : w109.cell? ⟨gb584, 0, none⟩ = some (.int .i64 0) := (blk_cell BK584.out 0).trans rfl; have hcz113_1 : w109.cell? ⟨gb584, 1, none⟩ = some (.slice none 0 0) := (blk_cell BK584.out 1).trans rfl; have hcz113_2 : w109.cell? ⟨gb584, 2, none⟩ = some (.slice none 0 0) := (blk_cell BK584.out 2).trans rfl; have hcz113_3 : w109.cell? ⟨gb584, 3, none⟩ = some (.slice none 0 0) := (blk_cell BK584.out 3).trans rfl; have hfz113_0 := blk_frozen BK584.out 0; have hfz113_1 := blk_frozen BK584.out 1; have hfz113_2 := blk_frozen BK584.out 2; have hfz113_3 := blk_frozen BK584.out 3; obtain ⟨Ao114, co114, eo114⟩ := Kd.R_slice HO576.out; subst eo114; obtain ⟨Ao115, co115, eo115⟩ := Kd.S_slice HO579.out; subst eo115; obtain ⟨Ao116, co116, eo116⟩ := Kd.R_slice HO582.out; subst eo116))
                    go_meet
                    case rel => exact ⟨_, H', ⟨by have := HJ3.out; have := HJ23.out; have := HJ32.out; have := HJ57.out; first | omega | exact Nat.le_refl _⟩, ⟨by xkb_; refine blk_far ?_ NB543_584.out _; xkb_; refine blk_far ?_ NB543_584.out _; xkb_; refine blk_far ?_ NB543_584.out _; xkb_; refine blk_far ?_ NB543_584.out _; xkb_; exact BK543.out⟩, ⟨by xkb_; refine blk_far ?_ NB544_584.out _; xkb_; refine blk_far ?_ NB544_584.out _; xkb_; refine blk_far ?_ NB544_584.out _; xkb_; refine blk_far ?_ NB544_584.out _; xkb_; exact BK544.out⟩, ⟨by repeat (first | (with_reducible first | exact HB.out | apply below_alloc | apply pw_below_drewN | apply below_drew1 | refine below_set ?_ GE543.out | refine below_set ?_ GE544.out | refine below_set ?_ GE563.out | refine below_set ?_ GE584.out) | exact HB.out)⟩⟩
                   ·rw [if_neg c100] at H
                    exact absurd H (by simp)
                 ·rw [if_neg c80] at H
                  exact absurd H (by simp)
                ·rw [if_neg c79] at H
                 exact absurd H (by simp)
              ·rw [if_neg c76] at H
               exact absurd H (by simp)
     ·replace c23 := Bool.eq_false_iff.mpr c23
      subst c23
      have H1 : (caesuralaw06_TableBack.j4 kj3 l1) = some r := by rw [if_neg (show ¬ (false = true) by decide)] at H; exact H
      clear H
      have H := H1
      clear H1
      have H' := Aside0.mk H
      clear H
      go_wp2
      go_meet
      case rel => exact ⟨_, H', ⟨by have := HJ3.out; first | omega | exact Nat.le_refl _⟩, ⟨by xkb_; exact BK543.out⟩, ⟨by xkb_; exact BK544.out⟩, ⟨by repeat (first | (with_reducible first | exact HB.out | apply below_alloc | apply pw_below_drewN | apply below_drew1 | refine below_set ?_ GE543.out | refine below_set ?_ GE544.out) | exact HB.out)⟩⟩
    case rest =>
     clear HC19
     xcl_ c1 c2 p2 p5 q5 hx5 p6 c7 c8 p8 q8 hx8 hf8 c9 c10 c11 c14 c23 p57 q57 hx57 p64 c75 c76 c77 c77b0 c77b1 c77b2 c79 c79b0 c80 c80b0 p81 q81 hx81 hf81 c83 c83b0 c83b1 c93 c94 c95 c100 c100b0 c100b1 c110 c111 c112 hcz113_0 hcz113_1 hcz113_2 hcz113_3 hcz71_1 hcz71_2 hcz71_3 hcz73_0 hcz73_1 hcz73_2 hcz73_3 hcz96_0 hcz96_1 hcz96_2 hcz96_3 hfz10_0 hfz10_1 hfz10_2 hfz10_3 hfz113_0 hfz113_1 hfz113_2 hfz113_3 hfz13_0 hfz13_1 hfz13_2 hfz13_3 hfz21_0 hfz21_1 hfz21_2 hfz21_3 hfz30_0 hfz30_1 hfz30_2 hfz30_3 hfz39_0 hfz39_1 hfz39_2 hfz39_3 hfz48_0 hfz48_1 hfz48_2 hfz48_3 hfz51_0 hfz51_1 hfz51_2 hfz51_3 hfz54_0 hfz54_1 hfz54_2 hfz54_3 hfz57_0 hfz57_1 hfz57_2 hfz57_3 hfz65_0 hfz65_1 hfz65_2 hfz65_3 hfz67_0 hfz67_1 hfz67_2 hfz67_3 hfz71_0 hfz71_1 hfz71_2 hfz71_3 hfz73_0 hfz73_1 hfz73_2 hfz73_3 hfz96_0 hfz96_1 hfz96_2 hfz96_3 hx571_0 hx81_0 p2 p571 p81 q571 q81
     obtain ⟨kq, HA, HJ18, BK543, BK544, HB⟩ := hcut
     cases kq with
     | zero => exact absurd HA.out (by simp [caesuralaw06_TableBack.j4])
     | succ kj18 =>
      have H := HA.out
      clear HA
      simp only [caesuralaw06_TableBack.j4] at H
      replace H := Option.bind_eq_some_iff.mp H
      obtain ⟨⟨t585, t586, t589, t592, t595⟩, A1170, H⟩ := H
      replace H : (if t595 = 0 then ((table_Encode.f kj18 t585 t586 t589 t592).bind fun bt597 => (if bt597.2 = true then ((caesurakeep_Bytes.f bt597.1 l1).bind fun t601 => (if t601 = true then ((caesuralaw06_wakes.f kj18).bind fun t602 => (some t602)) else (none))) else (none))) else (if t585 = 0 then (if (t589.length : Int) = 0 then ((caesuralaw06_wakes.f kj18).bind fun t603 => (some t603)) else (none)) else (none))) = some r := H
      have A117 := Aside0.mk A1170
      clear A1170
      by_cases c118 : t595 = 0
      ·rw [if_pos c118] at H
       have c118b0 : (t595 == 0) = true := beq_iff_eq.mpr c118
       have c118b1 : (t595 != 0) = false := bne_eq_false_iff_eq.mpr c118
       clear c118
       replace H := Option.bind_eq_some_iff.mp H
       obtain ⟨⟨t597, t600⟩, A1190, H⟩ := H
       replace H : (if t600 = true then ((caesurakeep_Bytes.f t597 l1).bind fun t601 => (if t601 = true then ((caesuralaw06_wakes.f kj18).bind fun t602 => (some t602)) else (none))) else (none)) = some r := H
       have A119 := Aside0.mk A1190
       clear A1190
       by_cases c120 : t600 = true
       ·subst c120
        have H1 : ((caesurakeep_Bytes.f t597 l1).bind fun t601 => (if t601 = true then ((caesuralaw06_wakes.f kj18).bind fun t602 => (some t602)) else (none))) = some r := by rw [if_pos rfl] at H; exact H
        clear H
        have H := H1
        clear H1
        replace H := Option.bind_eq_some_iff.mp H
        obtain ⟨t601, A1210, H⟩ := H
        replace H : (if t601 = true then ((caesuralaw06_wakes.f kj18).bind fun t602 => (some t602)) else (none)) = some r := H
        have A121 := Aside0.mk A1210
        clear A1210
        by_cases c122 : t601 = true
        ·subst c122
         have H1 : ((caesuralaw06_wakes.f kj18).bind fun t602 => (some t602)) = some r := by rw [if_pos rfl] at H; exact H
         clear H
         have H := H1
         clear H1
         replace H := Option.bind_eq_some_iff.mp H
         obtain ⟨t602, A1230, H⟩ := H
         replace H : (some t602) = some r := H
         have A123 := Aside0.mk A1230
         clear A1230
         obtain rfl := Option.some.inj H
         go_wp2_with (first | ((with_reducible refine gate_callee (f := 14) rfl ?_); refine goesL_ (some 129) rfl rfl Try.func14 (by kernel_rfl) rfl #[.slice A1 l1.length c1] rfl (by xlm_) ?_; (with_reducible refine (table_Decode.calls kj18 _ _ l1 t585 t586 t589 t592 t595 _ ?side1 ?side2 A117.out).mono ?_); (case side1 => repeat (first | exact (Kd.C_below HR1.out HB.out) | xkC_)); (case side2 => exact HC1.out); rintro e w124 ⟨v587, v590, v593, rfl, ho0, ho1, ho2, hb⟩; refine ⟨_, rfl, ?_⟩; have n0_ := Aside0.mk (Kd.R_lower ho0 (below_size (by repeat (first | (with_reducible first | exact HB.out | apply below_alloc | apply pw_below_drewN | apply below_drew1 | refine below_set ?_ GE543.out | refine below_set ?_ GE544.out) | exact HB.out)))); have n1_ := Aside0.mk (Kd.S_lower ho1 (below_size (by repeat (first | (with_reducible first | exact HB.out | apply below_alloc | apply pw_below_drewN | apply below_drew1 | refine below_set ?_ GE543.out | refine below_set ?_ GE544.out) | exact HB.out)))); have n2_ := Aside0.mk (Kd.R_lower ho2 (below_size (by repeat (first | (with_reducible first | exact HB.out | apply below_alloc | apply pw_below_drewN | apply below_drew1 | refine below_set ?_ GE543.out | refine below_set ?_ GE544.out) | exact HB.out)))); have n3_ := Aside0.mk (blk_below (g := gb543) (o := .cells #[.int .i64 a0_0, .slice A0_1 l0_1.length c0_1, .slice A0_2 l0_2.length c0_2, .slice A0_3 l0_3.length c0_3] 26 (0, 0)) (by xkb_; exact BK543.out) hb); have n4_ := Aside0.mk (blk_below (g := gb544) (o := .cells #[.int .u16 a2_0, .int .u16 a2_1] 44 (0, 0)) (by xkb_; exact BK544.out) hb); have n5_ := Aside0.mk (below_step (by repeat (first | (with_reducible first | exact HB.out | apply below_alloc | apply pw_below_drewN | apply below_drew1 | refine below_set ?_ GE543.out | refine below_set ?_ GE544.out) | exact HB.out)) hb); clear BK543; clear BK544; clear HB; have HO588 := n0_; have HO591 := n1_; have HO594 := n2_; have BK543 := n3_; have BK544 := n4_; have HB := n5_; clear n0_ n1_ n2_ n3_ n4_ n5_; (try clear hb); (try clear hb2); (try clear hk); (try clear hi); (try clear ho0); (try clear ho1); (try clear ho2)) | ((with_reducible refine gate_dst (N := 15) rfl ?_); xgg_; refine box_event ?hg (N := 15) ?hd (cs := #[.int .i64 0, .slice none 0 0, .slice none 0 0, .slice none 0 0]) (t := 26) ?hr ?_; (case hd => rfl); (case hg => rfl); (case hr => xgs_); intro gb596 hg w125 hbox hb; have n0_ := Aside0.mk (Kd.R_below (by xkR_; exact HO588.out) hb); have n1_ := Aside0.mk (Kd.S_below (by xkS_; exact HO591.out) hb); have n2_ := Aside0.mk (Kd.R_below (by xkR_; exact HO594.out) hb); have n3_ := Aside0.mk (blk_below (g := gb543) (o := .cells #[.int .i64 a0_0, .slice A0_1 l0_1.length c0_1, .slice A0_2 l0_2.length c0_2, .slice A0_3 l0_3.length c0_3] 26 (0, 0)) (by xkb_; exact BK543.out) hb); have n4_ := Aside0.mk (blk_below (g := gb544) (o := .cells #[.int .u16 a2_0, .int .u16 a2_1] 44 (0, 0)) (by xkb_; exact BK544.out) hb); have n5_ := Aside0.mk (below_step (by repeat (first | (with_reducible first | exact HB.out | apply below_alloc | apply pw_below_drewN | apply below_drew1 | refine below_set ?_ GE543.out | refine below_set ?_ GE544.out) | exact HB.out)) hb); have n6_ := Aside0.mk (hbox); have n7_ := Aside0.mk ((by rw [hg]; exact (below_size (by repeat (first | (with_reducible first | exact HB.out | apply below_alloc | apply pw_below_drewN | apply below_drew1 | refine below_set ?_ GE543.out | refine below_set ?_ GE544.out) | exact HB.out))) : w.heap.size ≤ gb596)); have n8_ := Aside0.mk ((by rw [hg]; exact (below_size (by repeat (first | (with_reducible first | exact HB.out | apply below_alloc | apply pw_below_drewN | apply below_drew1 | refine below_set ?_ GE543.out | refine below_set ?_ GE544.out) | exact HB.out))) : w.heap.size ≤ gb596)); have n9_ := Aside0.mk ((by rw [hg]; exact Nat.ne_of_lt (blk_lt (g := gb543) (o := .cells #[.int .i64 a0_0, .slice A0_1 l0_1.length c0_1, .slice A0_2 l0_2.length c0_2, .slice A0_3 l0_3.length c0_3] 26 (0, 0)) (by xkb_; exact BK543.out)) : gb543 ≠ gb596)); have n10_ := Aside0.mk ((by rw [hg]; exact Nat.ne_of_gt (blk_lt (g := gb543) (o := .cells #[.int .i64 a0_0, .slice A0_1 l0_1.length c0_1, .slice A0_2 l0_2.length c0_2, .slice A0_3 l0_3.length c0_3] 26 (0, 0)) (by xkb_; exact BK543.out)) : gb596 ≠ gb543)); have n11_ := Aside0.mk ((by rw [hg]; exact Nat.ne_of_lt (blk_lt (g := gb544) (o := .cells #[.int .u16 a2_0, .int .u16 a2_1] 44 (0, 0)) (by xkb_; exact BK544.out)) : gb544 ≠ gb596)); have n12_ := Aside0.mk ((by rw [hg]; exact Nat.ne_of_gt (blk_lt (g := gb544) (o := .cells #[.int .u16 a2_0, .int .u16 a2_1] 44 (0, 0)) (by xkb_; exact BK544.out)) : gb596 ≠ gb544)); clear HO588; clear HO591; clear HO594; clear BK543; clear BK544; clear HB; have HO588 := n0_; have HO591 := n1_; have HO594 := n2_; have BK543 := n3_; have BK544 := n4_; have HB := n5_; have BK596 := n6_; have GW596 := n7_; have GE596 := n8_; have NB543_596 := n9_; have NB596_543 := n10_; have NB544_596 := n11_; have NB596_544 := n12_; clear n0_ n1_ n2_ n3_ n4_ n5_ n6_ n7_ n8_ n9_ n10_ n11_ n12_; clear hb hbox hg; have hnb126 := NB596_543.out; have hnc126 := NB543_596.out; have hnb127 := NB596_544.out; have hnc127 := NB544_596.out; have hcz128_0 : w125.cell? ⟨gb596, 0, none⟩ = some (.int .i64 0) := (blk_cell BK596.out 0).trans rfl; have hcz128_1 : w125.cell? ⟨gb596, 1, none⟩ = some (.slice none 0 0) := (blk_cell BK596.out 1).trans rfl; have hcz128_2 : w125.cell? ⟨gb596, 2, none⟩ = some (.slice none 0 0) := (blk_cell BK596.out 2).trans rfl; have hcz128_3 : w125.cell? ⟨gb596, 3, none⟩ = some (.slice none 0 0) := (blk_cell BK596.out 3).trans rfl; have hfz128_0 := blk_frozen BK596.out 0; have hfz128_1 := blk_frozen BK596.out 1; have hfz128_2 := blk_frozen BK596.out 2; have hfz128_3 := blk_frozen BK596.out 3; obtain ⟨Ao129, co129, eo129⟩ := Kd.R_slice HO588.out; subst eo129; obtain ⟨Ao130, co130, eo130⟩ := Kd.S_slice HO591.out; subst eo130; obtain ⟨Ao131, co131, eo131⟩ := Kd.R_slice HO594.out; subst eo131) | ((with_reducible refine gate_callee (f := 12) rfl ?_); refine goesL_ (some 148) rfl rfl Try.func12 (by kernel_rfl) rfl #[.agg #[.int .i64 t585, .slice Ao129 t586.length co129, .slice Ao130 t589.length co130, .slice Ao131 t592.length co131]] rfl (by xlm_) ?_; (with_reducible refine (table_Encode.calls kj18 t585 _ _ t586 _ _ t589 _ _ t592 t597 true _ ?side1 ?side2 ?side3 ?side4 ?side5 ?side6 A119.out).mono ?_); (case side1 => refine (Kd.R_reads' (e := 52) (base := w.heap.size) (ok := fun k_ => True) (n := t586.length) (c := co129) ?_).2.2; exact (by xkR_; exact (Kd.R_mono (Kd.R_far (p := ⟨gb596, 3, none⟩) (Kd.R_far (p := ⟨gb596, 2, none⟩) (Kd.R_far (p := ⟨gb596, 1, none⟩) (Kd.R_far (p := ⟨gb596, 0, none⟩) (Kd.R_types HO588.out BK596.out (by decide)) (fun _ hk => hk.2) (.int .i64 t585)) (fun _ hk => hk.2) (.slice Ao129 t586.length co129)) (fun _ hk => hk.2) (.slice Ao130 t589.length co130)) (fun _ hk => hk.2) (.slice Ao131 t592.length co131)) (fun _ h_ => h_.1)))); (case side2 => exact (Kd.R_reads' HO588.out).2.1); (case side3 => refine (Kd.S_reads' (e := 53) (base := w.heap.size) (ok := fun k_ => True) (n := t589.length) (c := co130) ?_).2.2; exact (by xkS_; exact (Kd.S_mono (Kd.S_far (p := ⟨gb596, 3, none⟩) (Kd.S_far (p := ⟨gb596, 2, none⟩) (Kd.S_far (p := ⟨gb596, 1, none⟩) (Kd.S_far (p := ⟨gb596, 0, none⟩) (Kd.S_types HO591.out BK596.out (by decide)) (fun _ hk => hk.2) (.int .i64 t585)) (fun _ hk => hk.2) (.slice Ao129 t586.length co129)) (fun _ hk => hk.2) (.slice Ao130 t589.length co130)) (fun _ hk => hk.2) (.slice Ao131 t592.length co131)) (fun _ h_ => h_.1)))); (case side4 => exact (Kd.S_reads' HO591.out).2.1); (case side5 => refine (Kd.R_reads' (e := 4) (base := w.heap.size) (ok := fun k_ => True) (n := t592.length) (c := co131) ?_).2.2; exact (by xkR_; exact (Kd.R_mono (Kd.R_far (p := ⟨gb596, 3, none⟩) (Kd.R_far (p := ⟨gb596, 2, none⟩) (Kd.R_far (p := ⟨gb596, 1, none⟩) (Kd.R_far (p := ⟨gb596, 0, none⟩) (Kd.R_types HO594.out BK596.out (by decide)) (fun _ hk => hk.2) (.int .i64 t585)) (fun _ hk => hk.2) (.slice Ao129 t586.length co129)) (fun _ hk => hk.2) (.slice Ao130 t589.length co130)) (fun _ hk => hk.2) (.slice Ao131 t592.length co131)) (fun _ h_ => h_.1)))); (case side6 => exact (Kd.R_reads' HO594.out).2.1); rintro e w132 ⟨v598, rfl, ho0, hb⟩; refine ⟨_, rfl, ?_⟩; have n0_ := Aside0.mk (Kd.R_below (by xkR_; exact (Kd.R_mono (Kd.R_far (p := ⟨gb596, 3, none⟩) (Kd.R_far (p := ⟨gb596, 2, none⟩) (Kd.R_far (p := ⟨gb596, 1, none⟩) (Kd.R_far (p := ⟨gb596, 0, none⟩) (Kd.R_types HO588.out BK596.out (by decide)) (fun _ hk => hk.2) (.int .i64 t585)) (fun _ hk => hk.2) (.slice Ao129 t586.length co129)) (fun _ hk => hk.2) (.slice Ao130 t589.length co130)) (fun _ hk => hk.2) (.slice Ao131 t592.length co131)) (fun _ h_ => h_.1))) hb); have n1_ := Aside0.mk (Kd.S_below (by xkS_; exact (Kd.S_mono (Kd.S_far (p := ⟨gb596, 3, none⟩) (Kd.S_far (p := ⟨gb596, 2, none⟩) (Kd.S_far (p := ⟨gb596, 1, none⟩) (Kd.S_far (p := ⟨gb596, 0, none⟩) (Kd.S_types HO591.out BK596.out (by decide)) (fun _ hk => hk.2) (.int .i64 t585)) (fun _ hk => hk.2) (.slice Ao129 t586.length co129)) (fun _ hk => hk.2) (.slice Ao130 t589.length co130)) (fun _ hk => hk.2) (.slice Ao131 t592.length co131)) (fun _ h_ => h_.1))) hb); have n2_ := Aside0.mk (Kd.R_below (by xkR_; exact (Kd.R_mono (Kd.R_far (p := ⟨gb596, 3, none⟩) (Kd.R_far (p := ⟨gb596, 2, none⟩) (Kd.R_far (p := ⟨gb596, 1, none⟩) (Kd.R_far (p := ⟨gb596, 0, none⟩) (Kd.R_types HO594.out BK596.out (by decide)) (fun _ hk => hk.2) (.int .i64 t585)) (fun _ hk => hk.2) (.slice Ao129 t586.length co129)) (fun _ hk => hk.2) (.slice Ao130 t589.length co130)) (fun _ hk => hk.2) (.slice Ao131 t592.length co131)) (fun _ h_ => h_.1))) hb); have n3_ := Aside0.mk (Kd.R_lower ho0 (below_size (by repeat (first | (with_reducible first | exact HB.out | apply below_alloc | apply pw_below_drewN | apply below_drew1 | refine below_set ?_ GE543.out | refine below_set ?_ GE544.out | refine below_set ?_ GE596.out) | exact HB.out)))); have n4_ := Aside0.mk (blk_below (g := gb543) (o := .cells #[.int .i64 a0_0, .slice A0_1 l0_1.length c0_1, .slice A0_2 l0_2.length c0_2, .slice A0_3 l0_3.length c0_3] 26 (0, 0)) (by xkb_; refine blk_far ?_ NB543_596.out _; xkb_; refine blk_far ?_ NB543_596.out _; xkb_; refine blk_far ?_ NB543_596.out _; xkb_; refine blk_far ?_ NB543_596.out _; xkb_; exact BK543.out) hb); have n5_ := Aside0.mk (blk_below (g := gb544) (o := .cells #[.int .u16 a2_0, .int .u16 a2_1] 44 (0, 0)) (by xkb_; refine blk_far ?_ NB544_596.out _; xkb_; refine blk_far ?_ NB544_596.out _; xkb_; refine blk_far ?_ NB544_596.out _; xkb_; refine blk_far ?_ NB544_596.out _; xkb_; exact BK544.out) hb); have n6_ := Aside0.mk (blk_below (g := gb596) (o := .cells #[.int .i64 t585, .slice Ao129 t586.length co129, .slice Ao130 t589.length co130, .slice Ao131 t592.length co131] 26 (0, 0)) (by xkb_; refine blk_put (cs := #[.int .i64 t585, .slice Ao129 t586.length co129, .slice Ao130 t589.length co130, .slice none 0 0]) ?_ 3 _ rfl; xkb_; refine blk_put (cs := #[.int .i64 t585, .slice Ao129 t586.length co129, .slice none 0 0, .slice none 0 0]) ?_ 2 _ rfl; xkb_; refine blk_put (cs := #[.int .i64 t585, .slice none 0 0, .slice none 0 0, .slice none 0 0]) ?_ 1 _ rfl; xkb_; refine blk_put (cs := #[.int .i64 0, .slice none 0 0, .slice none 0 0, .slice none 0 0]) ?_ 0 _ rfl; xkb_; exact BK596.out) hb); have n7_ := Aside0.mk (below_step (by repeat (first | (with_reducible first | exact HB.out | apply below_alloc | apply pw_below_drewN | apply below_drew1 | refine below_set ?_ GE543.out | refine below_set ?_ GE544.out | refine below_set ?_ GE596.out) | exact HB.out)) hb); clear HO588; clear HO591; clear HO594; clear BK543; clear BK544; clear BK596; clear HB; have HO588 := n0_; have HO591 := n1_; have HO594 := n2_; have HO599 := n3_; have BK543 := n4_; have BK544 := n5_; have BK596 := n6_; have HB := n7_; clear n0_ n1_ n2_ n3_ n4_ n5_ n6_ n7_; (try clear hb); (try clear hb2); (try clear hk); (try clear hi); (try clear ho0); obtain ⟨Ao133, co133, eo133⟩ := Kd.R_slice HO599.out; subst eo133) | (go_at_call 16; (with_reducible refine (caesurakeep_Bytes.calls _ _ t597 _ _ l1 true _ ?side1 ?side2 ?side3 ?side4 A121.out).mono ?_); (case side1 => repeat (first | exact (Kd.R_reads' HO599.out).2.2 | xkC_)); (case side2 => exact (Kd.R_reads' HO599.out).2.1); (case side3 => repeat (first | exact (Kd.C_below HR1.out HB.out) | xkC_)); (case side4 => exact HC1.out); rintro e w' ⟨rfl, ⟨nd, rfl⟩⟩) | (go_at_call 10; (with_reducible refine (caesuralaw06_wakes.calls kj18  t602 _ A123.out).mono ?_); rintro e w134 ⟨rfl, hb⟩; have n0_ := Aside0.mk (Kd.R_below (by xkR_; exact HO588.out) hb); have n1_ := Aside0.mk (Kd.S_below (by xkS_; exact HO591.out) hb); have n2_ := Aside0.mk (Kd.R_below (by xkR_; exact HO594.out) hb); have n3_ := Aside0.mk (Kd.R_below (by xkR_; exact HO599.out) hb); have n4_ := Aside0.mk (blk_below (g := gb543) (o := .cells #[.int .i64 a0_0, .slice A0_1 l0_1.length c0_1, .slice A0_2 l0_2.length c0_2, .slice A0_3 l0_3.length c0_3] 26 (0, 0)) (by xkb_; exact BK543.out) hb); have n5_ := Aside0.mk (blk_below (g := gb544) (o := .cells #[.int .u16 a2_0, .int .u16 a2_1] 44 (0, 0)) (by xkb_; exact BK544.out) hb); have n6_ := Aside0.mk (blk_below (g := gb596) (o := .cells #[.int .i64 t585, .slice Ao129 t586.length co129, .slice Ao130 t589.length co130, .slice Ao131 t592.length co131] 26 (0, 0)) (by xkb_; exact BK596.out) hb); have n7_ := Aside0.mk (below_step (by repeat (first | (with_reducible first | exact HB.out | apply below_alloc | apply pw_below_drewN | apply below_drew1 | refine below_set ?_ GE543.out | refine below_set ?_ GE544.out | refine below_set ?_ GE596.out) | exact HB.out)) hb); clear HO588; clear HO591; clear HO594; clear HO599; clear BK543; clear BK544; clear BK596; clear HB; have HO588 := n0_; have HO591 := n1_; have HO594 := n2_; have HO599 := n3_; have BK543 := n4_; have BK544 := n5_; have BK596 := n6_; have HB := n7_; clear n0_ n1_ n2_ n3_ n4_ n5_ n6_ n7_; (try clear hb); (try clear hb2); (try clear hk); (try clear hi)))
         go_ret
         exact ⟨by first | rfl | (simp [errW_none, errW_some] <;> rfl) | (simp [*, errW_none, errW_some] <;> rfl), by repeat (first | (with_reducible first | exact HB.out | apply below_alloc | apply pw_below_drewN | apply below_drew1 | refine below_set ?_ GE543.out | refine below_set ?_ GE544.out | refine below_set ?_ GE596.out) | exact HB.out)⟩
        ·replace c122 := Bool.eq_false_iff.mpr c122
         subst c122
         have H1 : (none) = some r := by rw [if_neg (show ¬ (false = true) by decide)] at H; exact H
         clear H
         have H := H1
         clear H1
         exact absurd H (by simp)
       ·replace c120 := Bool.eq_false_iff.mpr c120
        subst c120
        have H1 : (none) = some r := by rw [if_neg (show ¬ (false = true) by decide)] at H; exact H
        clear H
        have H := H1
        clear H1
        exact absurd H (by simp)
      ·rw [if_neg c118] at H
       have c118b0 : (t595 == 0) = false := beq_eq_false_iff_ne.mpr c118
       have c118b1 : (t595 != 0) = true := bne_iff_ne.mpr c118
       by_cases c135 : t585 = 0
       ·rw [if_pos c135] at H
        have c135b0 : (t585 == 0) = true := beq_iff_eq.mpr c135
        have c135b1 : (t585 != 0) = false := bne_eq_false_iff_eq.mpr c135
        clear c135
        by_cases c136 : (t589.length : Int) = 0
        ·rw [if_pos c136] at H
         have c136b0 : ((t589.length : Int) == 0) = true := beq_iff_eq.mpr c136
         have c136b1 : ((t589.length : Int) != 0) = false := bne_eq_false_iff_eq.mpr c136
         clear c136
         replace H := Option.bind_eq_some_iff.mp H
         obtain ⟨t603, A1370, H⟩ := H
         replace H : (some t603) = some r := H
         have A137 := Aside0.mk A1370
         clear A1370
         obtain rfl := Option.some.inj H
         go_wp2_with (first | ((with_reducible refine gate_callee (f := 14) rfl ?_); refine goesL_ (some 129) rfl rfl Try.func14 (by kernel_rfl) rfl #[.slice A1 l1.length c1] rfl (by xlm_) ?_; (with_reducible refine (table_Decode.calls kj18 _ _ l1 t585 t586 t589 t592 t595 _ ?side1 ?side2 A117.out).mono ?_); (case side1 => repeat (first | exact (Kd.C_below HR1.out HB.out) | xkC_)); (case side2 => exact HC1.out); rintro e w138 ⟨v587, v590, v593, rfl, ho0, ho1, ho2, hb⟩; refine ⟨_, rfl, ?_⟩; have n0_ := Aside0.mk (Kd.R_lower ho0 (below_size (by repeat (first | (with_reducible first | exact HB.out | apply below_alloc | apply pw_below_drewN | apply below_drew1 | refine below_set ?_ GE543.out | refine below_set ?_ GE544.out) | exact HB.out)))); have n1_ := Aside0.mk (Kd.S_lower ho1 (below_size (by repeat (first | (with_reducible first | exact HB.out | apply below_alloc | apply pw_below_drewN | apply below_drew1 | refine below_set ?_ GE543.out | refine below_set ?_ GE544.out) | exact HB.out)))); have n2_ := Aside0.mk (Kd.R_lower ho2 (below_size (by repeat (first | (with_reducible first | exact HB.out | apply below_alloc | apply pw_below_drewN | apply below_drew1 | refine below_set ?_ GE543.out | refine below_set ?_ GE544.out) | exact HB.out)))); have n3_ := Aside0.mk (blk_below (g := gb543) (o := .cells #[.int .i64 a0_0, .slice A0_1 l0_1.length c0_1, .slice A0_2 l0_2.length c0_2, .slice A0_3 l0_3.length c0_3] 26 (0, 0)) (by xkb_; exact BK543.out) hb); have n4_ := Aside0.mk (blk_below (g := gb544) (o := .cells #[.int .u16 a2_0, .int .u16 a2_1] 44 (0, 0)) (by xkb_; exact BK544.out) hb); have n5_ := Aside0.mk (below_step (by repeat (first | (with_reducible first | exact HB.out | apply below_alloc | apply pw_below_drewN | apply below_drew1 | refine below_set ?_ GE543.out | refine below_set ?_ GE544.out) | exact HB.out)) hb); clear BK543; clear BK544; clear HB; have HO588 := n0_; have HO591 := n1_; have HO594 := n2_; have BK543 := n3_; have BK544 := n4_; have HB := n5_; clear n0_ n1_ n2_ n3_ n4_ n5_; (try clear hb); (try clear hb2); (try clear hk); (try clear hi); (try clear ho0); (try clear ho1); (try clear ho2)) | ((with_reducible refine gate_dst (N := 15) rfl ?_); xgg_; refine box_event ?hg (N := 15) ?hd (cs := #[.int .i64 0, .slice none 0 0, .slice none 0 0, .slice none 0 0]) (t := 26) ?hr ?_; (case hd => rfl); (case hg => rfl); (case hr => xgs_); intro gb596 hg w139 hbox hb; have n0_ := Aside0.mk (Kd.R_below (by xkR_; exact HO588.out) hb); have n1_ := Aside0.mk (Kd.S_below (by xkS_; exact HO591.out) hb); have n2_ := Aside0.mk (Kd.R_below (by xkR_; exact HO594.out) hb); have n3_ := Aside0.mk (blk_below (g := gb543) (o := .cells #[.int .i64 a0_0, .slice A0_1 l0_1.length c0_1, .slice A0_2 l0_2.length c0_2, .slice A0_3 l0_3.length c0_3] 26 (0, 0)) (by xkb_; exact BK543.out) hb); have n4_ := Aside0.mk (blk_below (g := gb544) (o := .cells #[.int .u16 a2_0, .int .u16 a2_1] 44 (0, 0)) (by xkb_; exact BK544.out) hb); have n5_ := Aside0.mk (below_step (by repeat (first | (with_reducible first | exact HB.out | apply below_alloc | apply pw_below_drewN | apply below_drew1 | refine below_set ?_ GE543.out | refine below_set ?_ GE544.out) | exact HB.out)) hb); have n6_ := Aside0.mk (hbox); have n7_ := Aside0.mk ((by rw [hg]; exact (below_size (by repeat (first | (with_reducible first | exact HB.out | apply below_alloc | apply pw_below_drewN | apply below_drew1 | refine below_set ?_ GE543.out | refine below_set ?_ GE544.out) | exact HB.out))) : w.heap.size ≤ gb596)); have n8_ := Aside0.mk ((by rw [hg]; exact (below_size (by repeat (first | (with_reducible first | exact HB.out | apply below_alloc | apply pw_below_drewN | apply below_drew1 | refine below_set ?_ GE543.out | refine below_set ?_ GE544.out) | exact HB.out))) : w.heap.size ≤ gb596)); have n9_ := Aside0.mk ((by rw [hg]; exact Nat.ne_of_lt (blk_lt (g := gb543) (o := .cells #[.int .i64 a0_0, .slice A0_1 l0_1.length c0_1, .slice A0_2 l0_2.length c0_2, .slice A0_3 l0_3.length c0_3] 26 (0, 0)) (by xkb_; exact BK543.out)) : gb543 ≠ gb596)); have n10_ := Aside0.mk ((by rw [hg]; exact Nat.ne_of_gt (blk_lt (g := gb543) (o := .cells #[.int .i64 a0_0, .slice A0_1 l0_1.length c0_1, .slice A0_2 l0_2.length c0_2, .slice A0_3 l0_3.length c0_3] 26 (0, 0)) (by xkb_; exact BK543.out)) : gb596 ≠ gb543)); have n11_ := Aside0.mk ((by rw [hg]; exact Nat.ne_of_lt (blk_lt (g := gb544) (o := .cells #[.int .u16 a2_0, .int .u16 a2_1] 44 (0, 0)) (by xkb_; exact BK544.out)) : gb544 ≠ gb596)); have n12_ := Aside0.mk ((by rw [hg]; exact Nat.ne_of_gt (blk_lt (g := gb544) (o := .cells #[.int .u16 a2_0, .int .u16 a2_1] 44 (0, 0)) (by xkb_; exact BK544.out)) : gb596 ≠ gb544)); clear HO588; clear HO591; clear HO594; clear BK543; clear BK544; clear HB; have HO588 := n0_; have HO591 := n1_; have HO594 := n2_; have BK543 := n3_; have BK544 := n4_; have HB := n5_; have BK596 := n6_; have GW596 := n7_; have GE596 := n8_; have NB543_596 := n9_; have NB596_543 := n10_; have NB544_596 := n11_; have NB596_544 := n12_; clear n0_ n1_ n2_ n3_ n4_ n5_ n6_ n7_ n8_ n9_ n10_ n11_ n12_; clear hb hbox hg; have hnb140 := NB596_543.out; have hnc140 := NB543_596.out; have hnb141 := NB596_544.out; have hnc141 := NB544_596.out; have hcz142_0 : w139.cell? ⟨gb596, 0, none⟩ = some (.int .i64 0) := (blk_cell BK596.out 0).trans rfl; have hcz142_1 : w139.cell? ⟨gb596, 1, none⟩ = some (.slice none 0 0) := (blk_cell BK596.out 1).trans rfl; have hcz142_2 : w139.cell? ⟨gb596, 2, none⟩ = some (.slice none 0 0) := (blk_cell BK596.out 2).trans rfl; have hcz142_3 : w139.cell? ⟨gb596, 3, none⟩ = some (.slice none 0 0) := (blk_cell BK596.out 3).trans rfl; have hfz142_0 := blk_frozen BK596.out 0; have hfz142_1 := blk_frozen BK596.out 1; have hfz142_2 := blk_frozen BK596.out 2; have hfz142_3 := blk_frozen BK596.out 3; obtain ⟨Ao143, co143, eo143⟩ := Kd.R_slice HO588.out; subst eo143; obtain ⟨Ao144, co144, eo144⟩ := Kd.S_slice HO591.out; subst eo144; obtain ⟨Ao145, co145, eo145⟩ := Kd.R_slice HO594.out; subst eo145) | (go_at_call 10; (with_reducible refine (caesuralaw06_wakes.calls kj18  t603 _ A137.out).mono ?_); rintro e w146 ⟨rfl, hb⟩; have n0_ := Aside0.mk (Kd.R_below (by xkR_; exact (Kd.R_mono (Kd.R_far (p := ⟨gb596, 3, none⟩) (Kd.R_far (p := ⟨gb596, 2, none⟩) (Kd.R_far (p := ⟨gb596, 1, none⟩) (Kd.R_far (p := ⟨gb596, 0, none⟩) (Kd.R_types HO588.out BK596.out (by decide)) (fun _ hk => hk.2) (.int .i64 t585)) (fun _ hk => hk.2) (.slice Ao143 t586.length co143)) (fun _ hk => hk.2) (.slice Ao144 t589.length co144)) (fun _ hk => hk.2) (.slice Ao145 t592.length co145)) (fun _ h_ => h_.1))) hb); have n1_ := Aside0.mk (Kd.S_below (by xkS_; exact (Kd.S_mono (Kd.S_far (p := ⟨gb596, 3, none⟩) (Kd.S_far (p := ⟨gb596, 2, none⟩) (Kd.S_far (p := ⟨gb596, 1, none⟩) (Kd.S_far (p := ⟨gb596, 0, none⟩) (Kd.S_types HO591.out BK596.out (by decide)) (fun _ hk => hk.2) (.int .i64 t585)) (fun _ hk => hk.2) (.slice Ao143 t586.length co143)) (fun _ hk => hk.2) (.slice Ao144 t589.length co144)) (fun _ hk => hk.2) (.slice Ao145 t592.length co145)) (fun _ h_ => h_.1))) hb); have n2_ := Aside0.mk (Kd.R_below (by xkR_; exact (Kd.R_mono (Kd.R_far (p := ⟨gb596, 3, none⟩) (Kd.R_far (p := ⟨gb596, 2, none⟩) (Kd.R_far (p := ⟨gb596, 1, none⟩) (Kd.R_far (p := ⟨gb596, 0, none⟩) (Kd.R_types HO594.out BK596.out (by decide)) (fun _ hk => hk.2) (.int .i64 t585)) (fun _ hk => hk.2) (.slice Ao143 t586.length co143)) (fun _ hk => hk.2) (.slice Ao144 t589.length co144)) (fun _ hk => hk.2) (.slice Ao145 t592.length co145)) (fun _ h_ => h_.1))) hb); have n3_ := Aside0.mk (blk_below (g := gb543) (o := .cells #[.int .i64 a0_0, .slice A0_1 l0_1.length c0_1, .slice A0_2 l0_2.length c0_2, .slice A0_3 l0_3.length c0_3] 26 (0, 0)) (by xkb_; refine blk_far ?_ NB543_596.out _; xkb_; refine blk_far ?_ NB543_596.out _; xkb_; refine blk_far ?_ NB543_596.out _; xkb_; refine blk_far ?_ NB543_596.out _; xkb_; exact BK543.out) hb); have n4_ := Aside0.mk (blk_below (g := gb544) (o := .cells #[.int .u16 a2_0, .int .u16 a2_1] 44 (0, 0)) (by xkb_; refine blk_far ?_ NB544_596.out _; xkb_; refine blk_far ?_ NB544_596.out _; xkb_; refine blk_far ?_ NB544_596.out _; xkb_; refine blk_far ?_ NB544_596.out _; xkb_; exact BK544.out) hb); have n5_ := Aside0.mk (blk_below (g := gb596) (o := .cells #[.int .i64 t585, .slice Ao143 t586.length co143, .slice Ao144 t589.length co144, .slice Ao145 t592.length co145] 26 (0, 0)) (by xkb_; refine blk_put (cs := #[.int .i64 t585, .slice Ao143 t586.length co143, .slice Ao144 t589.length co144, .slice none 0 0]) ?_ 3 _ rfl; xkb_; refine blk_put (cs := #[.int .i64 t585, .slice Ao143 t586.length co143, .slice none 0 0, .slice none 0 0]) ?_ 2 _ rfl; xkb_; refine blk_put (cs := #[.int .i64 t585, .slice none 0 0, .slice none 0 0, .slice none 0 0]) ?_ 1 _ rfl; xkb_; refine blk_put (cs := #[.int .i64 0, .slice none 0 0, .slice none 0 0, .slice none 0 0]) ?_ 0 _ rfl; xkb_; exact BK596.out) hb); have n6_ := Aside0.mk (below_step (by repeat (first | (with_reducible first | exact HB.out | apply below_alloc | apply pw_below_drewN | apply below_drew1 | refine below_set ?_ GE543.out | refine below_set ?_ GE544.out | refine below_set ?_ GE596.out) | exact HB.out)) hb); clear HO588; clear HO591; clear HO594; clear BK543; clear BK544; clear BK596; clear HB; have HO588 := n0_; have HO591 := n1_; have HO594 := n2_; have BK543 := n3_; have BK544 := n4_; have BK596 := n5_; have HB := n6_; clear n0_ n1_ n2_ n3_ n4_ n5_ n6_; (try clear hb); (try clear hb2); (try clear hk); (try clear hi)))
         go_ret
         exact ⟨by first | rfl | (simp [errW_none, errW_some] <;> rfl) | (simp [*, errW_none, errW_some] <;> rfl), by repeat (first | (with_reducible first | exact HB.out | apply below_alloc | apply pw_below_drewN | apply below_drew1 | refine below_set ?_ GE543.out | refine below_set ?_ GE544.out | refine below_set ?_ GE596.out) | exact HB.out)⟩
        ·rw [if_neg c136] at H
         exact absurd H (by simp)
       ·rw [if_neg c135] at H
        exact absurd H (by simp)
def caesuralaw06_TableBack.Pure : Prop := ∀ (x0 : S26) (x1 : List Int) (x2 : S44), ((Lit.int .i64 x0.f0).wf = true ∧ ((x0.f1.length ≤ maxLen ∧ ∀ x604 ∈ x0.f1, ((Lit.int .i64 x604.f0).wf = true ∧ (Lit.int .i64 x604.f1).wf = true)) ∧ ((x0.f2.length ≤ maxLen ∧ ∀ x605 ∈ x0.f2, (x605.length ≤ maxLen ∧ ∀ x606 ∈ x605, (Lit.int .i64 x606).wf = true)) ∧ (x0.f3.length ≤ maxLen ∧ ∀ x607 ∈ x0.f3, True)))) → (x1.length ≤ maxLen ∧ ∀ x608 ∈ x1, (Lit.int .u8 x608).wf = true) → x1.length * 1 ≤ 140737488351232 → ((Lit.int .u16 x2.f0).wf = true ∧ (Lit.int .u16 x2.f1).wf = true) → ∃ k, caesuralaw06_TableBack.f k (x0.f0) (x0.f1) (x0.f2) (x0.f3) x1 (x2.f0) (x2.f1) = some true
end Go.Proofs.Ytpcbhghgommijaa.X
end
section
namespace Go.Proofs.Ytpcbhghgommijaa.XPure
open Go Go.RowKit Go.Proofs.YtpcbhghgommijaaW.PrintWords Go.Proofs.YtpcbhghgommijaaW.PrintMore
set_option linter.unusedVariables false
set_option linter.unusedSimpArgs false
theorem Ev.pos {α : Type} {c : Prop} [Decidable c] {g f : Nat → Option α} {r : α} (h : c) (k : Ev g r) : Ev (fun n => if c then g n else f n) r := Ev.congr (fun n => if_pos h) k
theorem Ev.neg {α : Type} {c : Prop} [Decidable c] {g f : Nat → Option α} {r : α} (h : ¬ c) (k : Ev f r) : Ev (fun n => if c then g n else f n) r := Ev.congr (fun n => if_neg h) k
theorem Ev.bindc {α β : Type} {a : Option α} {x : α} {f : Nat → α → Option β} {r : β} (h : a = some x) (k : Ev (fun n => f n x) r) : Ev (fun n => a.bind (f n)) r := by
  subst h
  exact k
theorem Ev.inj {α : Type} {g : Nat → Option α} {r r' : α} (h : Ev g r) (h' : Ev g r') : r = r' := by
  obtain ⟨K, h⟩ := h
  obtain ⟨K', h'⟩ := h'
  have h1 := h (max K K') (by omega)
  have h2 := h' (max K K') (by omega)
  rw [h1] at h2
  exact Option.some.inj h2
theorem w64 {n : Int} (h0 : -9223372036854775808 ≤ n) (h1 : n ≤ 9223372036854775807) : wrap64 n = n := by unfold wrap64; omega
theorem tdiv_nn {a b : Int} (ha : 0 ≤ a) : Int.tdiv a b = a / b := Int.tdiv_eq_ediv_of_nonneg ha
theorem tmod_nn {a b : Int} (ha : 0 ≤ a) : Int.tmod a b = a % b := Int.tmod_eq_emod_of_nonneg ha
theorem u8b {n : Int} (h : (Lit.int .u8 n).wf = true) : 0 ≤ n ∧ n < 256 := by
  simp [Lit.wf, IntKind.min, IntKind.max, IntKind.signed, IntKind.bits] at h; omega
theorem u16b {n : Int} (h : (Lit.int .u16 n).wf = true) : 0 ≤ n ∧ n < 65536 := by
  simp [Lit.wf, IntKind.min, IntKind.max, IntKind.signed, IntKind.bits] at h; omega
theorem mx_eq (a b : Int) : mx a b = max a b := by unfold mx; split <;> omega
theorem mn_eq (a b : Int) : mn a b = min a b := by unfold mn; split <;> omega
theorem wraps_u32 (n : Int) (h0 : 0 ≤ n) (h1 : n < 2 ^ 32) : IntKind.u32.wrap n = n := by rw [IntKind.wrap_u32]; omega
theorem wraps_i64 (n : Int) (h0 : 0 ≤ n) (h1 : n < 2 ^ 63) : IntKind.i64.wrap n = n := by rw [IntKind.wrap_i64]; omega
theorem bits_xor_nat (k : IntKind) (j : Nat) (hj : j ≤ k.bits) (hk : ∀ n : Int, 0 ≤ n → n < 2 ^ j → k.wrap n = n) (a b : Nat) (ha : a < 2 ^ j) (hb : b < 2 ^ j) :
    Go.bits .xor k (a : Int) (b : Int) = ((a ^^^ b : Nat) : Int) := by
  have hp : 2 ^ j ≤ 2 ^ k.bits := Nat.pow_le_pow_right (by decide) hj
  have ha' : a % 2 ^ k.bits = a := Nat.mod_eq_of_lt (Nat.lt_of_lt_of_le ha hp)
  have hb' : b % 2 ^ k.bits = b := Nat.mod_eq_of_lt (Nat.lt_of_lt_of_le hb hp)
  have cast : ∀ n : Nat, n < 2 ^ j → ((n : Nat) : Int) < 2 ^ j := fun n h => by exact_mod_cast h
  simp only [Go.bits, BitVec.ofInt_natCast, BitVec.toNat_xor, BitVec.toNat_ofNat, ha', hb']
  exact hk _ (Int.natCast_nonneg _) (cast _ (Nat.xor_lt_two_pow ha hb))
theorem nu8_or (a b : Nat) (ha : a < 256) (hb : b < 256) : Go.bits .or .u8 (a : Int) (b : Int) = ((a ||| b : Nat) : Int) := (bits_nat .u8 8 (by decide) wraps_u8 a b (by omega) (by omega)).2
theorem nu8_and (a b : Nat) (ha : a < 256) (hb : b < 256) : Go.bits .and .u8 (a : Int) (b : Int) = ((a &&& b : Nat) : Int) := (bits_nat .u8 8 (by decide) wraps_u8 a b (by omega) (by omega)).1
theorem nu8_xor (a b : Nat) (ha : a < 256) (hb : b < 256) : Go.bits .xor .u8 (a : Int) (b : Int) = ((a ^^^ b : Nat) : Int) := bits_xor_nat .u8 8 (by decide) wraps_u8 a b (by omega) (by omega)
theorem nu32_xor (a b : Nat) (ha : a < 4294967296) (hb : b < 4294967296) : Go.bits .xor .u32 (a : Int) (b : Int) = ((a ^^^ b : Nat) : Int) := bits_xor_nat .u32 32 (by decide) wraps_u32 a b (by omega) (by omega)
theorem i64_join (n : Nat) (hn : n ≤ 62) (x y : Int) (hx0 : 0 ≤ x) (hx : x % 2 ^ n = 0) (hx1 : x < 4611686018427387904) (hy0 : 0 ≤ y) (hy : y < 2 ^ n) (hy1 : y < 4611686018427387904) : Go.bits .or .i64 x y = x + y :=
  bits_join .i64 63 (by decide) wraps_i64 n x y hx0 hx (by omega) hy0 hy (by omega)
theorem u32_join (n : Nat) (x y : Int) (hx0 : 0 ≤ x) (hx : x % 2 ^ n = 0) (hx1 : x < 4294967296) (hy0 : 0 ≤ y) (hy : y < 2 ^ n) (hy1 : y < 4294967296) : Go.bits .or .u32 x y = x + y :=
  bits_join .u32 32 (by decide) wraps_u32 n x y hx0 hx (by omega) hy0 hy (by omega)
theorem getD_lt {α : Type} {l : List α} {i : Nat} {d : α} (h : i < l.length) : l.getD i d = l[i] := by simp [List.getD, h]
theorem drop_cons {α : Type} {l : List α} {i : Nat} (h : i < l.length) : l.drop i = l[i] :: l.drop (i + 1) := List.drop_eq_getElem_cons h
theorem rd_nat (l : List Int) (n : Nat) : rd l (n : Int) = l.getD n 0 := by simp [rd]
theorem rdB_nat (l : List Bool) (n : Nat) : rdOf false l (n : Int) = l.getD n false := by simp [rdOf]
theorem range_of (l : List Int) (p : Int → Prop) (h : ∀ x ∈ l, p x) (h0 : p 0) (n : Nat) : p (l.getD n 0) := by
  by_cases hn : n < l.length
  · rw [getD_lt hn]; exact h _ (List.getElem_mem hn)
  · simp [List.getD, List.getElem?_eq_none (by omega : l.length ≤ n), h0]
theorem toList_eq (s : ByteArray) : s.toList = s.data.toList := by
  obtain ⟨⟨l⟩⟩ := s
  simp
theorem strOf_toList (a : List Int) : (strOfNums a).toList = a.map fun n => UInt8.ofNat n.toNat := by rw [toList_eq]; rfl
theorem strOf_inj {a b : List Int} (ha : ∀ x ∈ a, 0 ≤ x ∧ x < 256) (hb : ∀ x ∈ b, 0 ≤ x ∧ x < 256) : (strOfNums a).toList = (strOfNums b).toList ↔ a = b := by
  constructor
  · rw [strOf_toList, strOf_toList]
    intro h
    induction a generalizing b with
    | nil =>
      cases b with
      | nil => rfl
      | cons y b => simp at h
    | cons x a ih =>
      cases b with
      | nil => simp at h
      | cons y b =>
        simp only [List.map_cons, List.cons.injEq] at h
        have hx := ha x (by simp)
        have hy := hb y (by simp)
        have h1 := congrArg UInt8.toNat h.1
        simp only [UInt8.toNat_ofNat', Nat.reducePow] at h1
        have : x = y := by omega
        subst this
        rw [ih (fun z hz => ha z (by simp [hz])) (fun z hz => hb z (by simp [hz])) h.2]
  · intro h; rw [h]
end Go.Proofs.Ytpcbhghgommijaa.XPure
end
section
namespace Go.Proofs.Ytpcbhghgommijaa.XPack
open Go Go.RowKit Go.Proofs.Ytpcbhghgommijaa.X Go.Proofs.Ytpcbhghgommijaa.XPure Go.Proofs.YtpcbhghgommijaaW.PrintWords Go.Proofs.YtpcbhghgommijaaW.PrintLast Go.Proofs.YtpcbhghgommijaaW.PrintMore
set_option linter.unusedVariables false
set_option linter.unusedSimpArgs false
set_option maxHeartbeats 1000000
def putS (l : List Int) (v size : Int) : List Int := l ++ ([v / 16777216 % 256, v / 65536 % 256, v / 256 % 256, v % 256].drop (4 - max 0 (min size 4)).toNat)
theorem put_eq (l : List Int) (v size : Int) (h : l.length + 4 < 140737488355328) : pack_Put.f l v size = some (putS l v size) := by
  unfold pack_Put.f putS
  rw [if_pos h, mx_eq, mn_eq]
theorem put_len (l : List Int) (v size : Int) : ((putS l v size).length : Int) = l.length + max 0 (min size 4) := by
  unfold putS
  rw [List.length_append, List.length_drop]
  simp only [List.length_cons, List.length_nil]
  omega
theorem put_bytes (l : List Int) (v size : Int) (h : ∀ x ∈ l, 0 ≤ x ∧ x < 256) : ∀ x ∈ putS l v size, 0 ≤ x ∧ x < 256 := by
  intro x hx
  unfold putS at hx
  rcases List.mem_append.1 hx with hx | hx
  · exact h x hx
  · have := List.mem_of_mem_drop hx
    simp only [List.mem_cons, List.not_mem_nil, or_false] at this
    omega
def be (v : Int) (l : List Int) : Int := l.foldl (fun v c => v * 256 + c) v
def getOk (l : List Int) (at_ size : Int) : Bool := decide (1 ≤ size ∧ size ≤ 4 ∧ 0 ≤ at_ ∧ at_ + size ≤ l.length)
def getS (l : List Int) (at_ size : Int) : Int × Bool := if getOk l at_ size = true then (be 0 ((l.drop at_.toNat).take size.toNat), true) else (0, false)
theorem be_cons (v c : Int) (l : List Int) : be v (c :: l) = be (v * 256 + c) l := rfl
theorem be_nil (v : Int) : be v [] = v := rfl
theorem pow256 (n : Nat) (h : n ≤ 3) : (256 : Int) ^ n ≤ 16777216 := by
  rcases n with _ | _ | _ | _ | n
  · decide
  · decide
  · decide
  · decide
  · omega
theorem get_loop (xs : List Int) (hb : ∀ x ∈ xs, 0 ≤ x ∧ x < 256) (hl : xs.length ≤ 4) : ∀ (d : Nat) (i : Nat) (v : Int), i + d = xs.length → 0 ≤ v → v < 256 ^ i →
    Ev (fun k => pack_Get.l0 k v xs (xs.length : Int) (i : Int)) (be v (xs.drop i), true) := by
  intro d
  induction d with
  | zero =>
    intro i v hi h0 h1
    refine Ev.step (f := fun _ => some (v, true)) (fun k => ?_) ?_
    · simp only [pack_Get.l0]; rw [if_neg (by omega)]
    · rw [List.drop_of_length_le (by omega)]; exact Ev.now _
  | succ d ih =>
    intro i v hi h0 h1
    have hlt : i < xs.length := by omega
    have hx := hb _ (List.getElem_mem hlt)
    have hp := pow256 i (by omega)
    have e1 : rd xs (i : Int) = xs[i] := by rw [rd_nat, getD_lt hlt]
    have e2 : wrap64 (v * 256) = v * 256 := w64 (by omega) (by omega)
    have e3 : wrap64 (rd xs (i : Int)) = xs[i] := by rw [e1]; exact w64 (by omega) (by omega)
    have e4 : wrap64 ((i : Int) + 1) = ((i + 1 : Nat) : Int) := by rw [w64 (by omega) (by omega)]; omega
    have e5 : Go.bits .or .i64 (v * 256) xs[i] = v * 256 + xs[i] := i64_join 8 (by omega) _ _ (by omega) (by omega) (by omega) hx.1 (by omega) (by omega)
    refine Ev.step (f := fun k => pack_Get.l0 k (v * 256 + xs[i]) xs (xs.length : Int) ((i + 1 : Nat) : Int)) (fun k => ?_) ?_
    · simp only [pack_Get.l0]; rw [if_pos (by omega), if_pos (by omega), if_pos (by omega), e2, e3, e4, e5]
    · rw [drop_cons hlt, be_cons]
      exact ih (i + 1) _ (by omega) (by omega) (by rw [Int.pow_succ]; omega)
theorem get_ev (l : List Int) (at_ size : Int) (hb : ∀ x ∈ l, 0 ≤ x ∧ x < 256) (hl : l.length ≤ 9223372036854775807) (ha : -9223372036854775808 ≤ at_ ∧ at_ ≤ 9223372036854775807) :
    Ev (fun k => pack_Get.f k l at_ size) (getS l at_ size) := by
  have hj : ∀ x : Bool, x = true → getOk l at_ size = false → Ev (fun k => pack_Get.j0 k l at_ size x) (getS l at_ size) := by
    intro x hx hg
    subst hx
    refine Ev.step (f := fun _ => some (0, false)) (fun k => by simp only [pack_Get.j0, if_true]) ?_
    unfold getS
    rw [hg]
    exact Ev.now _
  have gf : ∀ h : ¬ (1 ≤ size ∧ size ≤ 4 ∧ 0 ≤ at_ ∧ at_ + size ≤ l.length), getOk l at_ size = false := fun h => decide_eq_false h
  unfold pack_Get.f
  by_cases h1 : size < 1
  · exact Ev.pos h1 (hj _ rfl (gf (by omega)))
  · refine Ev.neg h1 ?_
    by_cases h2 : size > 4
    · exact Ev.pos h2 (hj _ rfl (gf (by omega)))
    · refine Ev.neg h2 ?_
      by_cases h3 : at_ < 0
      · exact Ev.pos h3 (hj _ rfl (gf (by omega)))
      · refine Ev.neg h3 ?_
        have e1 : wrap64 ((l.length : Int) - size) = l.length - size := w64 (by omega) (by omega)
        rw [e1]
        by_cases h4 : at_ > (l.length : Int) - size
        · exact hj _ (decide_eq_true h4) (gf (by omega))
        · rw [decide_eq_false h4]
          have hg : getOk l at_ size = true := decide_eq_true (by omega)
          have e2 : wrap64 (at_ + size) = at_ + size := w64 (by omega) (by omega)
          have es : (l.take (at_ + size).toNat).drop at_.toNat = (l.drop at_.toNat).take size.toNat := by
            rw [List.drop_take]
            congr 1
            omega
          have el : ((l.drop at_.toNat).take size.toNat).length = size.toNat := by rw [List.length_take, List.length_drop]; omega
          have := get_loop ((l.drop at_.toNat).take size.toNat) (fun x hx => hb x (List.mem_of_mem_drop (List.mem_of_mem_take hx))) (by omega) size.toNat 0 0 (by omega) (by omega) (by decide)
          rw [List.drop_zero] at this
          unfold getS
          rw [if_pos hg]
          have this' : Ev (fun k => (some ((l.drop at_.toNat).take size.toNat : List Int)).bind fun y => pack_Get.l0 k 0 y (y.length : Int) 0) (be 0 ((l.drop at_.toNat).take size.toNat), true) := this
          refine Ev.step (fun k => ?_) this'
          simp only [pack_Get.j0, Bool.false_eq_true, if_false, e2, es]
          rw [if_pos (by omega), if_pos (by omega), if_pos (by omega)]
def rot (x : Int) : Int := x * 32 % 4294967296 + x / 134217728
def xr (s c : Int) : Int := ((s.toNat ^^^ c.toNat : Nat) : Int)
def sumStep (s c : Int) : Int := (rot (xr s c) + 2654435761) % 4294967296
def sumS (l : List Int) : Int := l.foldl sumStep 2166136261
theorem xr_eq (s c : Int) (hs : 0 ≤ s ∧ s < 4294967296) (hc : 0 ≤ c ∧ c < 4294967296) : Go.bits .xor .u32 s c = xr s c := by
  have h1 : s.toNat < 4294967296 := by omega
  have h2 : c.toNat < 4294967296 := by omega
  have := nu32_xor s.toNat c.toNat h1 h2
  rw [Int.toNat_of_nonneg hs.1, Int.toNat_of_nonneg hc.1] at this
  exact this
theorem xr_bd (s c : Int) (hs : 0 ≤ s ∧ s < 4294967296) (hc : 0 ≤ c ∧ c < 4294967296) : 0 ≤ xr s c ∧ xr s c < 4294967296 := by
  unfold xr
  have : s.toNat ^^^ c.toNat < 2 ^ 32 := Nat.xor_lt_two_pow (by omega) (by omega)
  omega
theorem rot_or (x : Int) (hx : 0 ≤ x ∧ x < 4294967296) : Go.bits .or .u32 (x * 32 % 4294967296) (x / 134217728) = rot x :=
  u32_join 5 _ _ (by omega) (by omega) (by omega) (by omega) (by omega) (by omega)
theorem rotate_eq (x : Int) (hx : 0 ≤ x ∧ x < 4294967296) : bits_RotateLeft32.f x 5 = some (rot x) := by
  have e1 : Go.bits .and .u64 (IntKind.u64.wrap 5) 31 = 5 := by decide
  have e2 : IntKind.u64.wrap (32 - 5) = 27 := by decide
  unfold bits_RotateLeft32.f
  simp only [e1, e2]
  rw [if_pos (by omega), if_pos (by omega)]
  have e3 : shl .u32 x 5 = x * 32 % 4294967296 := by
    have : min (5 : Int).toNat IntKind.u32.bits = 5 := by decide
    unfold shl
    rw [this, IntKind.wrap_u32]
    rfl
  have e4 : shr .u32 x 27 = x / 134217728 := by
    have : min (27 : Int).toNat IntKind.u32.bits = 27 := by decide
    unfold shr
    rw [this]
    rfl
  rw [e3, e4, rot_or x hx]
theorem rot_bd (x : Int) (hx : 0 ≤ x ∧ x < 4294967296) : 0 ≤ rot x ∧ rot x < 4294967296 := by unfold rot; omega
theorem step_bd (s c : Int) : 0 ≤ sumStep s c ∧ sumStep s c < 4294967296 := by unfold sumStep; omega
theorem sum_bd (l : List Int) : ∀ s, 0 ≤ s ∧ s < 4294967296 → 0 ≤ l.foldl sumStep s ∧ l.foldl sumStep s < 4294967296 := by
  induction l with
  | nil => intro s hs; exact hs
  | cons c l ih => intro s hs; exact ih _ (step_bd s c)
theorem sum_loop (xs : List Int) (hb : ∀ x ∈ xs, 0 ≤ x ∧ x < 256) (hl : xs.length ≤ 9223372036854775806) : ∀ (d : Nat) (i : Nat) (s : Int), i + d = xs.length → 0 ≤ s ∧ s < 4294967296 →
    Ev (fun k => pack_Sum.l0 k s xs (xs.length : Int) (i : Int)) ((xs.drop i).foldl sumStep s) := by
  intro d
  induction d with
  | zero =>
    intro i s hi hs
    refine Ev.step (f := fun _ => some s) (fun k => ?_) ?_
    · simp only [pack_Sum.l0]; rw [if_neg (by omega)]
    · rw [List.drop_of_length_le (by omega)]; exact Ev.now _
  | succ d ih =>
    intro i s hi hs
    have hlt : i < xs.length := by omega
    have hx := hb _ (List.getElem_mem hlt)
    have e1 : rd xs (i : Int) = xs[i] := by rw [rd_nat, getD_lt hlt]
    have e2 : rd xs (i : Int) % 4294967296 = xs[i] := by rw [e1]; omega
    have e4 : wrap64 ((i : Int) + 1) = ((i + 1 : Nat) : Int) := by rw [w64 (by omega) (by omega)]; omega
    have e5 := xr_eq s xs[i] hs (by omega)
    have e6 := rotate_eq (xr s xs[i]) (xr_bd s xs[i] hs (by omega))
    refine Ev.step (f := fun k => pack_Sum.l0 k (sumStep s xs[i]) xs (xs.length : Int) ((i + 1 : Nat) : Int)) (fun k => ?_) ?_
    · simp only [pack_Sum.l0]; rw [if_pos (by omega), if_pos (by omega), if_pos (by omega), e2, e4, e5, e6]; rfl
    · rw [drop_cons hlt]
      exact ih (i + 1) _ (by omega) (step_bd _ _)
theorem sum_ev (l : List Int) (hb : ∀ x ∈ l, 0 ≤ x ∧ x < 256) (hl : l.length ≤ 9223372036854775806) : Ev (fun k => pack_Sum.f k l) (sumS l) := by
  have := sum_loop l hb hl l.length 0 2166136261 (by omega) (by omega)
  exact this
def bitAt (b : List Int) (j : Nat) : Bool := (b.getD (j / 8) 0).toNat.testBit (j % 8)
structure IsBits (l : List Bool) (b : List Int) : Prop where
  len : b.length = (l.length + 7) / 8
  bytes : ∀ x ∈ b, 0 ≤ x ∧ x < 256
  bit : ∀ j, bitAt b j = l.getD j false
theorem byte_at {b : List Int} (h : ∀ x ∈ b, 0 ≤ x ∧ x < 256) (i : Nat) : 0 ≤ b.getD i 0 ∧ b.getD i 0 < 256 := range_of b (fun x => 0 ≤ x ∧ x < 256) h (by omega) i
theorem bytes_ext {a b : List Int} (hl : a.length = b.length) (ha : ∀ x ∈ a, 0 ≤ x ∧ x < 256) (hb : ∀ x ∈ b, 0 ≤ x ∧ x < 256) (h : ∀ j, j < 8 * a.length → bitAt a j = bitAt b j) : a = b := by
  apply List.ext_getElem hl
  intro i h1 h2
  have e1 : a.getD i 0 = a[i] := getD_lt h1
  have e2 : b.getD i 0 = b[i] := getD_lt h2
  have r1 := byte_at ha i
  have r2 := byte_at hb i
  have key : (a.getD i 0).toNat = (b.getD i 0).toNat := by
    apply Nat.eq_of_testBit_eq
    intro m
    by_cases hm : m < 8
    · have := h (8 * i + m) (by omega)
      unfold bitAt at this
      rw [show (8 * i + m) / 8 = i by omega, show (8 * i + m) % 8 = m by omega] at this
      exact this
    · have q1 : (a.getD i 0).toNat < 2 ^ m := Nat.lt_of_lt_of_le (show _ < 2 ^ 8 by omega) (Nat.pow_le_pow_right (by decide) (by omega))
      have q2 : (b.getD i 0).toNat < 2 ^ m := Nat.lt_of_lt_of_le (show _ < 2 ^ 8 by omega) (Nat.pow_le_pow_right (by decide) (by omega))
      rw [Nat.testBit_lt_two_pow q1, Nat.testBit_lt_two_pow q2]
  omega
theorem bits_one {l : List Bool} {a b : List Int} (ha : IsBits l a) (hb : IsBits l b) : a = b :=
  bytes_ext (by rw [ha.len, hb.len]) ha.bytes hb.bytes (fun j _ => by rw [ha.bit, hb.bit])
theorem two_pow_lt (m : Nat) (h : m < 8) : 2 ^ m < 256 := Nat.lt_of_lt_of_le (Nat.pow_lt_pow_right (by decide) h) (by decide)
theorem shl1 (m : Nat) (h : m < 8) : shl .u8 1 (m : Int) = ((2 ^ m : Nat) : Int) := by
  have hm : min (m : Int).toNat IntKind.u8.bits = m := by
    have : IntKind.u8.bits = 8 := by decide
    omega
  have := two_pow_lt m h
  unfold shl
  rw [hm, Int.one_mul, wraps_u8 _ (by exact_mod_cast Nat.zero_le (2 ^ m)) (by exact_mod_cast this)]
  exact_mod_cast rfl
theorem shr_and (x : Int) (m : Nat) (hx : 0 ≤ x ∧ x < 256) (h : m < 8) : (Go.bits .and .u8 (shr .u8 x (m : Int)) 1 == 1) = x.toNat.testBit m := by
  have hm : min (m : Int).toNat IntKind.u8.bits = m := by
    have : IntKind.u8.bits = 8 := by decide
    omega
  have e1 : shr .u8 x (m : Int) = ((x.toNat / 2 ^ m : Nat) : Int) := by
    unfold shr
    rw [hm]
    have : x = (x.toNat : Int) := by omega
    conv => lhs; rw [this]
    exact_mod_cast rfl
  have h1 : x.toNat / 2 ^ m < 256 := Nat.lt_of_le_of_lt (Nat.div_le_self _ _) (by omega)
  rw [e1]
  have e2 := nu8_and (x.toNat / 2 ^ m) 1 h1 (by omega)
  rw [show ((1 : Nat) : Int) = 1 from rfl] at e2
  rw [e2, Nat.and_one_is_mod, Nat.testBit_eq_decide_div_mod_eq]
  have : x.toNat / 2 ^ m % 2 = 0 ∨ x.toNat / 2 ^ m % 2 = 1 := by omega
  rcases this with h | h <;> rw [h] <;> rfl
theorem set_or (b : List Int) (hb : ∀ x ∈ b, 0 ≤ x ∧ x < 256) (i : Nat) (hi : i / 8 < b.length) :
    (∀ x ∈ b.set (i / 8) (Go.bits .or .u8 (rd b ((i / 8 : Nat) : Int)) (shl .u8 1 ((i % 8 : Nat) : Int))), 0 ≤ x ∧ x < 256) ∧
    ∀ j, bitAt (b.set (i / 8) (Go.bits .or .u8 (rd b ((i / 8 : Nat) : Int)) (shl .u8 1 ((i % 8 : Nat) : Int)))) j = (bitAt b j || j == i) := by
  have r := byte_at hb (i / 8)
  have hp := two_pow_lt (i % 8) (by omega)
  have e : Go.bits .or .u8 (rd b ((i / 8 : Nat) : Int)) (shl .u8 1 ((i % 8 : Nat) : Int)) = (((b.getD (i / 8) 0).toNat ||| 2 ^ (i % 8) : Nat) : Int) := by
    rw [shl1 _ (by omega), rd_nat]
    have := nu8_or (b.getD (i / 8) 0).toNat (2 ^ (i % 8)) (by omega) hp
    rw [Int.toNat_of_nonneg r.1] at this
    exact this
  have hlt : (b.getD (i / 8) 0).toNat ||| 2 ^ (i % 8) < 2 ^ 8 := Nat.or_lt_two_pow (by omega) (by omega)
  rw [e]
  refine ⟨fun x hx => ?_, fun j => ?_⟩
  · rcases List.mem_or_eq_of_mem_set hx with hx | rfl
    · exact hb x hx
    · omega
  · unfold bitAt
    by_cases hj : j / 8 = i / 8
    · have : (b.set (i / 8) (((b.getD (i / 8) 0).toNat ||| 2 ^ (i % 8) : Nat) : Int)).getD (j / 8) 0 = (((b.getD (i / 8) 0).toNat ||| 2 ^ (i % 8) : Nat) : Int) := by
        rw [hj, getD_lt (by rw [List.length_set]; exact hi), List.getElem_set_self]
      rw [this, hj, Int.toNat_natCast, Nat.testBit_or, Nat.testBit_two_pow]
      congr 1
      by_cases hji : j = i
      · subst hji; simp
      · have : i % 8 ≠ j % 8 := by omega
        simp [hji, this]
    · have : (b.set (i / 8) (((b.getD (i / 8) 0).toNat ||| 2 ^ (i % 8) : Nat) : Int)).getD (j / 8) 0 = b.getD (j / 8) 0 := by
        simp only [List.getD, List.getElem?_set]
        rw [if_neg (by omega)]
      rw [this]
      have : (j == i) = false := by rw [beq_eq_false_iff_ne]; omega
      rw [this, Bool.or_false]
theorem tdiv8 (i : Nat) (h : i < 9223372036854775807) : wrap64 (Int.tdiv (i : Int) 8) = ((i / 8 : Nat) : Int) := by
  rw [tdiv_nn (by omega), w64 (by omega) (by omega)]; omega
theorem tmod8 (i : Nat) : Int.tmod (i : Int) 8 = ((i % 8 : Nat) : Int) := by rw [tmod_nn (by omega)]; omega
theorem succ64 (i : Nat) (h : i < 9223372036854775807) : wrap64 ((i : Int) + 1) = ((i + 1 : Nat) : Int) := by rw [w64 (by omega) (by omega)]; omega
structure Upto (l : List Bool) (b : List Int) (i : Nat) : Prop where
  len : b.length = (l.length + 7) / 8
  bytes : ∀ x ∈ b, 0 ≤ x ∧ x < 256
  bit : ∀ j, bitAt b j = (decide (j < i) && l.getD j false)
theorem upto_zero (l : List Bool) : Upto l (List.replicate ((l.length + 7) / 8) 0) 0 := by
  refine ⟨by simp, fun x hx => ?_, fun j => ?_⟩
  · have := (List.mem_replicate.1 hx).2
    omega
  · unfold bitAt
    have : (List.replicate ((l.length + 7) / 8) (0 : Int)).getD (j / 8) 0 = 0 := by
      simp only [List.getD, List.getElem?_replicate]
      split <;> rfl
    rw [this]
    simp
theorem upto_done {l : List Bool} {b : List Int} {i : Nat} (h : Upto l b i) (hi : l.length ≤ i) : IsBits l b := by
  refine ⟨h.len, h.bytes, fun j => ?_⟩
  rw [h.bit]
  by_cases hj : j < i
  · simp [hj]
  · have : l.length ≤ j := by omega
    simp [List.getD, hj, this]
theorem upto_set {l : List Bool} {b : List Int} {i : Nat} (h : Upto l b i) (hi : i < l.length) (ht : l.getD i false = true) :
    Upto l (b.set (i / 8) (Go.bits .or .u8 (rd b ((i / 8 : Nat) : Int)) (shl .u8 1 ((i % 8 : Nat) : Int)))) (i + 1) := by
  have hl := h.len
  obtain ⟨h1, h2⟩ := set_or b h.bytes i (by omega)
  refine ⟨by rw [List.length_set, h.len], h1, fun j => ?_⟩
  rw [h2, h.bit]
  by_cases hj : j = i
  · subst hj; rw [ht]; simp
  · have e1 : (j == i) = false := by simpa using hj
    rw [e1, Bool.or_false]
    congr 1
    apply decide_eq_decide.2
    omega
theorem upto_skip {l : List Bool} {b : List Int} {i : Nat} (h : Upto l b i) (ht : l.getD i false = false) : Upto l b (i + 1) := by
  refine ⟨h.len, h.bytes, fun j => ?_⟩
  rw [h.bit]
  by_cases hj : j = i
  · subst hj; rw [ht]; simp
  · congr 1
    apply decide_eq_decide.2
    omega
theorem bits_loop (l : List Bool) (hl : l.length ≤ 1000000000000) : ∀ (d i : Nat) (b : List Int), i + d = l.length → Upto l b i →
    ∃ r, Ev (fun k => pack_Bits.l0 k b l (l.length : Int) (i : Int)) r ∧ IsBits l r := by
  intro d
  induction d with
  | zero =>
    intro i b hi hu
    refine ⟨b, Ev.step (f := fun _ => some b) (fun k => ?_) (Ev.now _), upto_done hu (by omega)⟩
    simp only [pack_Bits.l0]; rw [if_neg (by omega)]
  | succ d ih =>
    intro i b hi hu
    have hlt : i < l.length := by omega
    have hbl := hu.len
    cases ht : l.getD i false with
    | true =>
      obtain ⟨r, hr, hq⟩ := ih (i + 1) _ (by omega) (upto_set hu hlt ht)
      refine ⟨r, Ev.step (fun k => ?_) hr, hq⟩
      simp only [pack_Bits.l0]
      rw [tdiv8 i (by omega), tmod8, succ64 i (by omega), rdB_nat, ht]
      rw [if_pos (by omega), if_pos (by omega), if_pos (by omega), if_pos rfl, if_pos (by omega), if_pos (by omega), if_pos (by omega), Int.toNat_natCast]
    | false =>
      obtain ⟨r, hr, hq⟩ := ih (i + 1) b (by omega) (upto_skip hu ht)
      refine ⟨r, Ev.step (fun k => ?_) hr, hq⟩
      simp only [pack_Bits.l0]
      rw [succ64 i (by omega), rdB_nat, ht]
      rw [if_pos (by omega), if_pos (by omega), if_pos (by omega), if_neg (by decide)]
theorem length_eq (n : Nat) (h : n ≤ 1000000000000) : pack_length.f (n : Int) = some (((n + 7) / 8 : Nat) : Int) := by
  unfold pack_length.f
  congr 1
  have e1 : wrap64 ((n : Int) + 8) = n + 8 := w64 (by omega) (by omega)
  have e2 : wrap64 ((n : Int) + 8 - 1) = n + 7 := by rw [w64 (by omega) (by omega)]; omega
  have e3 : wrap64 ((n : Int) + 7) = n + 7 := w64 (by omega) (by omega)
  simp only [e1, e2, e3]
  rw [tdiv_nn (by omega), w64 (by omega) (by omega)]
  omega
theorem bits_ev (l : List Bool) (hl : l.length ≤ 1000000000000) : ∃ r, Ev (fun k => pack_Bits.f k l) r ∧ IsBits l r := by
  obtain ⟨r, hr, hq⟩ := bits_loop l hl l.length 0 _ (by omega) (upto_zero l)
  refine ⟨r, ?_, hq⟩
  unfold pack_Bits.f
  refine Ev.bindc (length_eq l.length hl) (Ev.pos (by omega) (Ev.pos (by omega) ?_))
  rw [Int.toNat_natCast]
  exact hr
theorem equal_loop (a b : List Int) (hl : a.length ≤ 1000000000000) (hab : a.length = b.length) : ∀ (d i : Nat), i + d = a.length →
    Ev (fun k => slices_Equal_byte_byte.l0 k a b (a.length : Int) (i : Int)) (decide (a.drop i = b.drop i)) := by
  intro d
  induction d with
  | zero =>
    intro i hi
    refine Ev.step (f := fun _ => some true) (fun k => ?_) ?_
    · simp only [slices_Equal_byte_byte.l0]; rw [if_neg (by omega)]
    · have : decide (a.drop i = b.drop i) = true := by
        rw [List.drop_of_length_le (by omega), List.drop_of_length_le (by omega)]; simp
      rw [this]; exact Ev.now _
  | succ d ih =>
    intro i hi
    have ha : i < a.length := by omega
    have hb : i < b.length := by omega
    have e1 : rd a (i : Int) = a[i] := by rw [rd_nat, getD_lt ha]
    have e2 : rd b (i : Int) = b[i] := by rw [rd_nat, getD_lt hb]
    by_cases he : a[i] = b[i]
    · have : decide (a.drop i = b.drop i) = decide (a.drop (i + 1) = b.drop (i + 1)) := by
        apply decide_eq_decide.2
        rw [drop_cons ha, drop_cons hb, he]
        simp only [List.cons.injEq, true_and]
      rw [this]
      refine Ev.step (fun k => ?_) (ih (i + 1) (by omega))
      simp only [slices_Equal_byte_byte.l0]
      rw [if_pos (by omega), if_pos (by omega), if_pos (by omega), if_pos (by omega), e1, e2, if_pos he, succ64 i (by omega)]
    · have : decide (a.drop i = b.drop i) = false := by
        apply decide_eq_false
        rw [drop_cons ha, drop_cons hb]
        intro h
        exact he (List.cons.inj h).1
      rw [this]
      refine Ev.step (f := fun _ => some false) (fun k => ?_) (Ev.now _)
      simp only [slices_Equal_byte_byte.l0]
      rw [if_pos (by omega), if_pos (by omega), if_pos (by omega), if_pos (by omega), e1, e2, if_neg he]
theorem equal_ev (a b : List Int) (hl : a.length ≤ 1000000000000) : Ev (fun k => slices_Equal_byte_byte.f k a b) (decide (a = b)) := by
  unfold slices_Equal_byte_byte.f
  by_cases h : a.length = b.length
  · refine Ev.pos (by omega) ?_
    have := equal_loop a b hl h a.length 0 (by omega)
    rw [List.drop_zero, List.drop_zero] at this
    exact this
  · refine Ev.neg (by omega) ?_
    have : decide (a = b) = false := decide_eq_false (fun he => h (by rw [he]))
    rw [this]
    exact Ev.now _
def unbitsOk (b : List Int) (n : Int) : Bool := decide (0 ≤ n ∧ n ≤ 8 * b.length ∧ (n.toNat + 7) / 8 = b.length) && (List.range (8 * b.length)).all (fun j => decide (n ≤ j) → bitAt b j = false)
def unbitsS (b : List Int) (n : Int) : List Bool × Bool := if unbitsOk b n = true then ((List.range n.toNat).map (bitAt b), true) else ([], false)
theorem bitAt_out (b : List Int) (j : Nat) (h : 8 * b.length ≤ j) : bitAt b j = false := by
  unfold bitAt
  have : b.getD (j / 8) 0 = 0 := by simp [List.getD, List.getElem?_eq_none (by omega : b.length ≤ j / 8)]
  rw [this]
  simp
theorem ok_iff (b : List Int) (n : Int) : unbitsOk b n = true ↔ 0 ≤ n ∧ n ≤ 8 * b.length ∧ (n.toNat + 7) / 8 = b.length ∧ ∀ j : Nat, n ≤ j → bitAt b j = false := by
  unfold unbitsOk
  rw [Bool.and_eq_true, decide_eq_true_eq, List.all_eq_true]
  constructor
  · rintro ⟨⟨h1, h2, h3⟩, h4⟩
    refine ⟨h1, h2, h3, fun j hj => ?_⟩
    by_cases hl : j < 8 * b.length
    · have := h4 j (List.mem_range.2 hl)
      simpa [hj] using this
    · exact bitAt_out b j (by omega)
  · rintro ⟨h1, h2, h3, h4⟩
    refine ⟨⟨h1, h2, h3⟩, fun j _ => ?_⟩
    simp only [decide_eq_true_eq]
    intro hj
    exact h4 j hj
theorem map_getD (f : Nat → Bool) (n j : Nat) : ((List.range n).map f).getD j false = (decide (j < n) && f j) := by
  by_cases h : j < n
  · rw [getD_lt (by simpa using h)]; simp [h]
  · simp [List.getD, List.getElem?_eq_none (by simpa using h : ((List.range n).map f).length ≤ j), h]
theorem isBits_iff (b : List Int) (n : Nat) (hb : ∀ x ∈ b, 0 ≤ x ∧ x < 256) (hn : (n + 7) / 8 = b.length) : IsBits ((List.range n).map (bitAt b)) b ↔ ∀ j : Nat, n ≤ j → bitAt b j = false := by
  constructor
  · intro h j hj
    rw [h.bit, map_getD]
    simp [Nat.not_lt.2 hj]
  · intro h
    refine ⟨by simp [hn], hb, fun j => ?_⟩
    rw [map_getD]
    by_cases hj : j < n
    · simp [hj]
    · simp [hj, h j (by omega)]
theorem set_map (f : Nat → Bool) (n i : Nat) (hi : i < n) : ((List.range i).map f ++ List.replicate (n - i) false).set i (f i) = (List.range (i + 1)).map f ++ List.replicate (n - (i + 1)) false := by
  have h : n - i = (n - (i + 1)) + 1 := by omega
  rw [List.range_succ, List.map_append, List.append_assoc, h, List.replicate_succ, List.set_append_right _ _ (by simp)]
  simp
theorem unbits_loop (b : List Int) (n : Nat) (hb : ∀ x ∈ b, 0 ≤ x ∧ x < 256) (hl : b.length ≤ 100000000000) (hn : (n + 7) / 8 = b.length) : ∀ (d i : Nat), i + d = n →
    Ev (fun k => pack_Unbits.l0 k b ((List.range i).map (bitAt b) ++ List.replicate (n - i) false) (n : Int) (i : Int)) (unbitsS b n) := by
  intro d
  induction d with
  | zero =>
    intro i hi
    obtain rfl : i = n := by omega
    rw [Nat.sub_self, List.replicate_zero, List.append_nil]
    obtain ⟨r, hr, hq⟩ := bits_ev ((List.range i).map (bitAt b)) (by simp; omega)
    have hrl : r.length ≤ 1000000000000 := by rw [hq.len]; simp; omega
    have heq := equal_ev r b hrl
    refine Ev.step (f := fun k => (pack_Bits.f k ((List.range i).map (bitAt b))).bind fun t213 => ((slices_Equal_byte_byte.f k t213 b).bind fun t216 => (if t216 = true then (some ((List.range i).map (bitAt b), true)) else (some (([] : List Bool), false))))) (fun k => ?_) (Ev.bind hr (Ev.bind heq ?_))
    · simp only [pack_Unbits.l0]; rw [if_neg (by omega)]
    · by_cases he : r = b
      · rw [decide_eq_true he]
        have hok : unbitsOk b i = true := (ok_iff b i).2 ⟨by omega, by omega, by rw [Int.toNat_natCast]; exact hn, fun j hj => (isBits_iff b i hb hn).1 (he ▸ hq) j (by omega)⟩
        unfold unbitsS
        rw [if_pos hok, Int.toNat_natCast]
        exact Ev.pos rfl (Ev.now _)
      · rw [decide_eq_false he]
        have hok : ¬ unbitsOk b i = true := fun h => he (bits_one hq ((isBits_iff b i hb hn).2 (fun j hj => ((ok_iff b i).1 h).2.2.2 j (by omega))))
        unfold unbitsS
        rw [if_neg hok]
        exact Ev.neg (by decide) (Ev.now _)
  | succ d ih =>
    intro i hi
    have hlt : i < n := by omega
    have r := byte_at hb (i / 8)
    refine Ev.step (fun k => ?_) (ih (i + 1) (by omega))
    simp only [pack_Unbits.l0]
    have hlen : ((List.range i).map (bitAt b) ++ List.replicate (n - i) false).length = n := by simp; omega
    rw [tdiv8 i (by omega), tmod8, succ64 i (by omega), rd_nat, shr_and _ _ r (by omega), hlen]
    rw [if_pos (by omega), if_pos (by omega), if_pos (by omega), if_pos (by omega), if_pos (by omega), if_pos (by omega), Int.toNat_natCast]
    have := set_map (bitAt b) n i hlt
    rw [show bitAt b i = (b.getD (i / 8) 0).toNat.testBit (i % 8) from rfl] at this
    rw [this]
theorem unbits_ev (b : List Int) (n : Int) (hb : ∀ x ∈ b, 0 ≤ x ∧ x < 256) (hl : b.length ≤ 100000000000) : Ev (fun k => pack_Unbits.f k b n) (unbitsS b n) := by
  have hj : ∀ x : Bool, x = true → unbitsOk b n = false → Ev (fun k => pack_Unbits.j0 k b n x) (unbitsS b n) := by
    intro x hx hg
    subst hx
    refine Ev.step (f := fun _ => some ([], false)) (fun k => by simp only [pack_Unbits.j0, if_true]) ?_
    unfold unbitsS
    rw [hg]
    exact Ev.now _
  have nf : ¬ (0 ≤ n ∧ n ≤ 8 * b.length ∧ (n.toNat + 7) / 8 = b.length) → unbitsOk b n = false := fun h => by
    unfold unbitsOk
    rw [decide_eq_false h, Bool.false_and]
  have e1 : wrap64 (8 * (b.length : Int)) = 8 * b.length := w64 (by omega) (by omega)
  unfold pack_Unbits.f
  by_cases h1 : n < 0
  · exact Ev.pos h1 (hj _ rfl (nf (by omega)))
  · refine Ev.neg h1 ?_
    rw [e1]
    by_cases h2 : n > 8 * (b.length : Int)
    · exact Ev.pos h2 (hj _ rfl (nf (by omega)))
    · refine Ev.neg h2 ?_
      obtain ⟨m, rfl⟩ := Int.eq_ofNat_of_zero_le (show 0 ≤ n by omega)
      refine Ev.bindc (length_eq m (by omega)) ?_
      by_cases h3 : (m + 7) / 8 = b.length
      · have : ((b.length : Int) != (((m + 7) / 8 : Nat) : Int)) = false := by rw [h3]; simp
        rw [this]
        have hlen : (List.replicate m false).length = m := List.length_replicate
        have := unbits_loop b m hb hl h3 m 0 (by omega)
        rw [Nat.sub_zero] at this
        have this' : Ev (fun k => (some (List.replicate m false)).bind fun y => pack_Unbits.l0 k b y (y.length : Int) 0) (unbitsS b m) := by
          simp only [Option.bind_some, hlen]
          exact this
        refine Ev.step (fun k => ?_) this'
        simp only [pack_Unbits.j0, Bool.false_eq_true, if_false, Int.toNat_natCast]
        rw [if_pos (by omega), if_pos (by omega)]
      · have : ((b.length : Int) != (((m + 7) / 8 : Nat) : Int)) = true := by rw [bne_iff_ne]; omega
        exact hj _ this (nf (by rw [Int.toNat_natCast]; omega))
theorem be_put (v : Int) (k : Nat) (h1 : 1 ≤ k) (h4 : k ≤ 4) : be 0 ([v / 16777216 % 256, v / 65536 % 256, v / 256 % 256, v % 256].drop (4 - k)) = v % 2 ^ (8 * k) := by
  have hk : k = 1 ∨ k = 2 ∨ k = 3 ∨ k = 4 := by omega
  rcases hk with rfl | rfl | rfl | rfl
  · show (0 * 256 + v % 256 : Int) = v % 2 ^ 8
    omega
  · show ((0 * 256 + v / 256 % 256) * 256 + v % 256 : Int) = v % 2 ^ 16
    omega
  · show (((0 * 256 + v / 65536 % 256) * 256 + v / 256 % 256) * 256 + v % 256 : Int) = v % 2 ^ 24
    omega
  · show ((((0 * 256 + v / 16777216 % 256) * 256 + v / 65536 % 256) * 256 + v / 256 % 256) * 256 + v % 256 : Int) = v % 2 ^ 32
    omega
theorem get_put (a rest : List Int) (v : Int) (k : Nat) (h1 : 1 ≤ k) (h4 : k ≤ 4) : getS (putS a v k ++ rest) (a.length : Int) (k : Int) = (v % 2 ^ (8 * k), true) := by
  have hm : (4 - max 0 (min (k : Int) 4)).toNat = 4 - k := by omega
  have hl := put_len a v k
  have hg : getOk (putS a v k ++ rest) (a.length : Int) (k : Int) = true := by
    apply decide_eq_true
    rw [List.length_append]
    omega
  unfold getS
  rw [if_pos hg, Int.toNat_natCast, Int.toNat_natCast]
  have e : (((putS a v k ++ rest).drop a.length).take k) = [v / 16777216 % 256, v / 65536 % 256, v / 256 % 256, v % 256].drop (4 - k) := by
    unfold putS
    rw [hm, List.append_assoc, List.drop_left]
    rw [List.take_append_of_le_length (by simp; omega), List.take_of_length_le (by simp; omega)]
  rw [e, be_put v k h1 h4]
theorem unbits_bits {l : List Bool} {b : List Int} (h : IsBits l b) : unbitsS b l.length = (l, true) := by
  have hok : unbitsOk b l.length = true := (ok_iff b _).2 ⟨by omega, by have := h.len; omega, by rw [Int.toNat_natCast, h.len], fun j hj => by
    rw [h.bit]
    simp [List.getD, List.getElem?_eq_none (by omega : l.length ≤ j)]⟩
  unfold unbitsS
  rw [if_pos hok, Int.toNat_natCast]
  congr 1
  apply List.ext_getElem (by simp)
  intro i h1 h2
  simp only [List.getElem_map, List.getElem_range]
  rw [h.bit, getD_lt h2]
end Go.Proofs.Ytpcbhghgommijaa.XPack
end
section
namespace Go.Proofs.Ytpcbhghgommijaa.XTable
open Go Go.RowKit Go.Proofs.Ytpcbhghgommijaa.X Go.Proofs.Ytpcbhghgommijaa.XPure Go.Proofs.Ytpcbhghgommijaa.XPack Go.Proofs.YtpcbhghgommijaaW.PrintWords Go.Proofs.YtpcbhghgommijaaW.PrintLast Go.Proofs.YtpcbhghgommijaaW.PrintMore
set_option linter.unusedVariables false
set_option linter.unusedSimpArgs false
set_option maxHeartbeats 1000000
abbrev Ba := S52
def btw (a lo hi : Int) : Bool := decide (lo ≤ a ∧ a ≤ hi)
theorem btw_eq (a lo hi : Int) : table_between.f a lo hi = some (btw a lo hi) := by
  unfold table_between.f btw
  by_cases h : a ≥ lo
  · rw [if_pos h]; simp [show lo ≤ a from h]
  · rw [if_neg h]; simp; omega
theorem btw_iff {a lo hi : Int} : btw a lo hi = true ↔ lo ≤ a ∧ a ≤ hi := by simp [btw]
def lenS (c s n : Int) : Int := if 0 ≤ c ∧ c ≤ 255 ∧ 0 ≤ s ∧ s ≤ 255 ∧ 0 ≤ n ∧ n ≤ 255 then 11 + 4 * n + c * s + (s + 7) / 8 else 0
theorem mul255 {a b : Int} (ha : 0 ≤ a ∧ a ≤ 255) (hb : 0 ≤ b ∧ b ≤ 255) : 0 ≤ a * b ∧ a * b ≤ 65025 :=
  ⟨Int.mul_nonneg ha.1 hb.1, Int.le_trans (Int.mul_le_mul ha.2 hb.2 hb.1 (by omega)) (by omega)⟩
theorem length_sum (c s n : Int) (hc : 0 ≤ c ∧ c ≤ 255) (hs : 0 ≤ s ∧ s ≤ 255) (hn : 0 ≤ n ∧ n ≤ 255) :
    wrap64 ((wrap64 ((wrap64 ((wrap64 (7 + (wrap64 (4 * n)))) + (wrap64 (c * s)))) + (wrap64 (Int.tdiv (wrap64 (s + 7)) 8)))) + 4) = 11 + 4 * n + c * s + (s + 7) / 8 := by
  have h := mul255 hc hs
  rw [w64 (n := 4 * n) (by omega) (by omega), w64 (n := 7 + 4 * n) (by omega) (by omega), w64 (n := c * s) (by omega) (by omega), w64 (n := 7 + 4 * n + c * s) (by omega) (by omega), w64 (n := s + 7) (by omega) (by omega), tdiv_nn (by omega), w64 (n := (s + 7) / 8) (by omega) (by omega)]
  rw [w64 (n := 7 + 4 * n + c * s + (s + 7) / 8) (by omega) (by omega), w64 (by omega) (by omega)]
  omega
theorem tlen_eq (c s n : Int) : table_Length.f c s n = some (lenS c s n) := by
  unfold table_Length.f lenS
  rw [btw_eq, Option.bind_some, btw_eq, Option.bind_some, btw_eq, Option.bind_some]
  by_cases h1 : 0 ≤ c ∧ c ≤ 255
  · rw [if_pos (btw_iff.2 h1)]
    by_cases h2 : 0 ≤ s ∧ s ≤ 255
    · rw [if_pos (btw_iff.2 h2)]
      by_cases h3 : 0 ≤ n ∧ n ≤ 255
      · rw [if_pos (btw_iff.2 h3), length_sum c s n h1 h2 h3, if_pos (by omega)]
      · rw [if_neg (fun h => h3 (btw_iff.1 h)), if_neg (by omega)]
    · rw [if_neg (fun h => h2 (btw_iff.1 h)), if_neg (by omega)]
  · rw [if_neg (fun h => h1 (btw_iff.1 h)), if_neg (by omega)]
theorem may_1_eq (a : Int) : table_may_1.f a = some (!btw a 0 255) := by unfold table_may_1.f; rw [btw_eq]; rfl
theorem rdT (l : List Ba) (i : Nat) (h : i < l.length) : rd_T52 l (i : Int) = l[i] := by simp [rd_T52, h]
theorem rdL (l : List (List Int)) (i : Nat) (h : i < l.length) : rd_L1 l (i : Int) = l[i] := by simp [rd_L1, h]
theorem ix_loop (xs : List Int) (hl : xs.length ≤ 1000000000000) : ∀ (d i : Nat), i + d = xs.length →
    ∃ r, Ev (fun k => slices_IndexFunc_int_int__table_may_1.l0 k xs (xs.length : Int) (i : Int)) r ∧ (decide (r ≥ 0) = !((xs.drop i).all fun n => btw n 0 255)) := by
  intro d
  induction d with
  | zero =>
    intro i hi
    refine ⟨-1, Ev.step (f := fun _ => some (-1)) (fun k => ?_) (Ev.now _), ?_⟩
    · simp only [slices_IndexFunc_int_int__table_may_1.l0]; rw [if_neg (by omega)]
    · rw [List.drop_of_length_le (by omega)]; rfl
  | succ d ih =>
    intro i hi
    have hlt : i < xs.length := by omega
    have e1 : rd xs (i : Int) = xs[i] := by rw [rd_nat, getD_lt hlt]
    cases hb : btw xs[i] 0 255 with
    | true =>
      obtain ⟨r, hr, hq⟩ := ih (i + 1) (by omega)
      refine ⟨r, Ev.step (fun k => ?_) hr, ?_⟩
      · simp only [slices_IndexFunc_int_int__table_may_1.l0]
        rw [if_pos (by omega), if_pos (by omega), if_pos (by omega), e1, may_1_eq, Option.bind_some, hb, if_neg (by decide), succ64 i (by omega)]
      · rw [drop_cons hlt, List.all_cons, hb, Bool.true_and]; exact hq
    | false =>
      refine ⟨(i : Int), Ev.step (f := fun _ => some (i : Int)) (fun k => ?_) (Ev.now _), ?_⟩
      · simp only [slices_IndexFunc_int_int__table_may_1.l0]
        rw [if_pos (by omega), if_pos (by omega), if_pos (by omega), e1, may_1_eq, Option.bind_some, hb, if_pos (by decide)]
      · rw [drop_cons hlt, List.all_cons, hb, Bool.false_and]; simp
theorem contains_ev (xs : List Int) (a : Int) (hl : xs.length ≤ 1000000000000) : Ev (fun k => slices_ContainsFunc_int_int__table_may_1.f k xs a) (!(xs.all fun n => btw n 0 255)) := by
  obtain ⟨r, hr, hq⟩ := ix_loop xs hl xs.length 0 (by omega)
  unfold slices_ContainsFunc_int_int__table_may_1.f slices_IndexFunc_int_int__table_may_1.f
  refine Ev.bind hr ?_
  rw [List.drop_zero] at hq
  rw [hq]
  exact Ev.now _
def bandOk (b : Ba) : Bool := btw b.f0 0 16777215 && btw b.f1 0 255
def rowOk (C : Int) (l : List Int) : Bool := decide ((l.length : Int) = C) && l.all fun n => btw n 0 255
def mayS (C : Int) (bands : List Ba) (next : List (List Int)) (brk : List Bool) : Bool :=
  decide (1 ≤ C ∧ C ≤ 255 ∧ 1 ≤ next.length ∧ next.length ≤ 255 ∧ brk.length = next.length ∧ bands.length ≤ 255) && (bands.all bandOk && next.all (rowOk C))
theorem may_rows (C : Int) (bands : List Ba) (next : List (List Int)) (brk : List Bool) (xs : List (List Int)) (hl : xs.length ≤ 1000000000000) (hr : ∀ x ∈ xs, x.length ≤ 1000000000000) : ∀ (d i : Nat), i + d = xs.length →
    Ev (fun k => table_may.l1 k xs (xs.length : Int) (i : Int) C bands next brk) ((xs.drop i).all (rowOk C)) := by
  intro d
  induction d with
  | zero =>
    intro i hi
    refine Ev.step (f := fun _ => some true) (fun k => ?_) ?_
    · simp only [table_may.l1]; rw [if_neg (by omega)]
    · rw [List.drop_of_length_le (by omega)]; exact Ev.now _
  | succ d ih =>
    intro i hi
    have hlt : i < xs.length := by omega
    rw [drop_cons hlt, List.all_cons]
    unfold rowOk
    by_cases hc : (xs[i].length : Int) = C
    · rw [decide_eq_true hc, Bool.true_and]
      have h1 := contains_ev xs[i] 0 (hr _ (List.getElem_mem hlt))
      cases hb : xs[i].all (fun n => btw n 0 255) with
      | true =>
        rw [hb] at h1
        refine Ev.step (f := fun k => (slices_ContainsFunc_int_int__table_may_1.f k xs[i] 0).bind fun t => if t = true then some false else table_may.l1 k xs (xs.length : Int) ((i + 1 : Nat) : Int) C bands next brk) (fun k => ?_) (Ev.bind h1 (Ev.neg (by decide) (by rw [Bool.true_and]; exact ih (i + 1) (by omega))))
        simp only [table_may.l1]
        rw [if_pos (by omega), if_pos (by omega), if_pos (by omega), rdL _ _ hlt, if_pos hc, succ64 i (by omega)]
      | false =>
        rw [hb] at h1
        refine Ev.step (f := fun k => (slices_ContainsFunc_int_int__table_may_1.f k xs[i] 0).bind fun t => if t = true then some false else table_may.l1 k xs (xs.length : Int) ((i + 1 : Nat) : Int) C bands next brk) (fun k => ?_) (Ev.bind h1 (Ev.pos (by decide) (by rw [Bool.false_and]; exact Ev.now _)))
        simp only [table_may.l1]
        rw [if_pos (by omega), if_pos (by omega), if_pos (by omega), rdL _ _ hlt, if_pos hc, succ64 i (by omega)]
    · rw [decide_eq_false hc, Bool.false_and, Bool.false_and]
      refine Ev.step (f := fun _ => some false) (fun k => ?_) (Ev.now _)
      simp only [table_may.l1]
      rw [if_pos (by omega), if_pos (by omega), if_pos (by omega), rdL _ _ hlt, if_neg hc]
theorem may_bands (C : Int) (bands : List Ba) (next : List (List Int)) (brk : List Bool) (xs : List Ba) (hn : next.length ≤ 1000000000000) (hr : ∀ x ∈ next, x.length ≤ 1000000000000) (hl : xs.length ≤ 1000000000000) : ∀ (d i : Nat), i + d = xs.length →
    Ev (fun k => table_may.l0 k xs (xs.length : Int) (i : Int) C bands next brk) ((xs.drop i).all bandOk && next.all (rowOk C)) := by
  intro d
  induction d with
  | zero =>
    intro i hi
    refine Ev.step (f := fun k => table_may.l1 k next (next.length : Int) ((0 : Nat) : Int) C bands next brk) (fun k => ?_) ?_
    · simp only [table_may.l0]; rw [if_neg (by omega)]; rfl
    · rw [List.drop_of_length_le (by omega)]
      have := may_rows C bands next brk next hn hr next.length 0 (by omega)
      rw [List.drop_zero] at this
      simpa using this
  | succ d ih =>
    intro i hi
    have hlt : i < xs.length := by omega
    rw [drop_cons hlt, List.all_cons]
    unfold bandOk
    cases h1 : btw xs[i].f0 0 16777215 with
    | false =>
      rw [Bool.false_and, Bool.false_and, Bool.false_and]
      refine Ev.step (f := fun _ => some false) (fun k => ?_) (Ev.now _)
      simp only [table_may.l0]
      rw [if_pos (by omega), if_pos (by omega), if_pos (by omega), rdT _ _ hlt, btw_eq, Option.bind_some, h1, if_neg (by decide)]
    | true =>
      cases h2 : btw xs[i].f1 0 255 with
      | false =>
        rw [Bool.true_and, Bool.false_and, Bool.false_and]
        refine Ev.step (f := fun _ => some false) (fun k => ?_) (Ev.now _)
        simp only [table_may.l0]
        rw [if_pos (by omega), if_pos (by omega), if_pos (by omega), rdT _ _ hlt, btw_eq, Option.bind_some, h1, if_pos rfl, btw_eq, Option.bind_some, h2, if_neg (by decide)]
      | true =>
        rw [Bool.true_and, Bool.true_and]
        refine Ev.step (fun k => ?_) (ih (i + 1) (by omega))
        simp only [table_may.l0]
        rw [if_pos (by omega), if_pos (by omega), if_pos (by omega), rdT _ _ hlt, btw_eq, Option.bind_some, h1, if_pos rfl, btw_eq, Option.bind_some, h2, if_pos rfl, succ64 i (by omega)]
theorem may_ev (C : Int) (bands : List Ba) (next : List (List Int)) (brk : List Bool) (hb : bands.length ≤ 1000000000000) (hn : next.length ≤ 1000000000000) (hr : ∀ x ∈ next, x.length ≤ 1000000000000) :
    Ev (fun k => table_may.f k C bands next brk) (mayS C bands next brk) := by
  have hf : ∀ b : Bool, mayS C bands next brk = false → b = true → Ev (fun k => table_may.j0 k b C bands next brk) (mayS C bands next brk) := by
    intro b h hb
    subst hb
    rw [h]
    exact Ev.step (f := fun _ => some false) (fun k => by simp [table_may.j0]) (Ev.now _)
  unfold table_may.f
  refine Ev.bindc (btw_eq _ _ _) ?_
  by_cases h1 : 1 ≤ C ∧ C ≤ 255
  · refine Ev.pos (btw_iff.2 h1) (Ev.bindc (btw_eq _ _ _) ?_)
    by_cases h2 : 1 ≤ (next.length : Int) ∧ (next.length : Int) ≤ 255
    · refine Ev.pos (btw_iff.2 h2) ?_
      by_cases h3 : (brk.length : Int) = next.length
      · refine Ev.pos h3 ?_
        by_cases h4 : bands.length ≤ 255
        · have e : decide ((bands.length : Int) > 255) = false := decide_eq_false (by omega)
          rw [e]
          refine Ev.step (f := fun k => table_may.l0 k bands (bands.length : Int) ((0 : Nat) : Int) C bands next brk) (fun k => by simp only [table_may.j0]; rw [if_neg (by decide)]; rfl) ?_
          have := may_bands C bands next brk bands hn hr hb bands.length 0 (by omega)
          rw [List.drop_zero] at this
          unfold mayS
          rw [decide_eq_true (by omega), Bool.true_and]
          exact this
        · refine hf _ ?_ (decide_eq_true (by omega))
          unfold mayS; rw [decide_eq_false (by omega), Bool.false_and]
      · refine Ev.neg h3 (hf _ ?_ rfl)
        unfold mayS; rw [decide_eq_false (by omega), Bool.false_and]
    · refine Ev.neg (fun h => h2 (btw_iff.1 h)) (hf _ ?_ rfl)
      unfold mayS; rw [decide_eq_false (by omega), Bool.false_and]
  · refine Ev.neg (fun h => h1 (btw_iff.1 h)) (hf _ ?_ rfl)
    unfold mayS; rw [decide_eq_false (by omega), Bool.false_and]
abbrev lows (l : List Int) : List Int := l.map fun n => n % 256
def bandB (b : Ba) : List Int := putS [] b.f0 3 ++ [b.f1 % 256]
def endB (acc bits : List Int) : List Int := putS (acc ++ bits) (sumS (acc ++ bits)) 4
theorem putS_app (acc : List Int) (v s : Int) : putS acc v s = acc ++ putS [] v s := by unfold putS; rw [List.nil_append]
theorem put3_len (acc : List Int) (v : Int) : (putS acc v 3).length = acc.length + 3 := by have := put_len acc v 3; omega
theorem put4_len (acc : List Int) (v : Int) : (putS acc v 4).length = acc.length + 4 := by have := put_len acc v 4; omega
theorem bandB_len (b : Ba) : (bandB b).length = 4 := by unfold bandB; rw [List.length_append, put3_len]; rfl
theorem bandB_bytes (b : Ba) : ∀ x ∈ bandB b, 0 ≤ x ∧ x < 256 := by
  intro x hx
  unfold bandB at hx
  rcases List.mem_append.1 hx with h | h
  · exact put_bytes [] _ _ (by simp) x h
  · obtain rfl := List.mem_singleton.1 h; omega
theorem lows_bytes (l : List Int) : ∀ x ∈ lows l, 0 ≤ x ∧ x < 256 := by
  intro x hx
  obtain ⟨y, _, rfl⟩ := List.mem_map.1 hx
  show 0 ≤ y % 256 ∧ y % 256 < 256
  omega
theorem app_bytes {a b : List Int} (ha : ∀ x ∈ a, 0 ≤ x ∧ x < 256) (hb : ∀ x ∈ b, 0 ≤ x ∧ x < 256) : ∀ x ∈ a ++ b, 0 ≤ x ∧ x < 256 := by
  intro x hx
  rcases List.mem_append.1 hx with h | h
  · exact ha x h
  · exact hb x h
theorem enc_cells (C : Int) (bands : List Ba) (next : List (List Int)) (brk : List Bool) (xs : List (List Int)) (m n : Int) (row : List Int) (hl : row.length ≤ 1000000000000) (r : List Int × Bool) : ∀ (d i : Nat) (acc : List Int), i + d = row.length → acc.length + d ≤ 10000000000000 →
    Ev (fun k => table_Encode.l1 k (acc ++ lows (row.drop i)) xs n (wrap64 (m + 1)) C bands next brk) r → Ev (fun k => table_Encode.l2 k acc xs n m row (row.length : Int) (i : Int) C bands next brk) r := by
  intro d
  induction d with
  | zero =>
    intro i acc hi ha h
    refine Ev.step (fun k => ?_) h
    simp only [table_Encode.l2]
    rw [if_neg (by omega), List.drop_of_length_le (by omega), lows, List.map_nil, List.append_nil]
  | succ d ih =>
    intro i acc hi ha h
    have hlt : i < row.length := by omega
    have e1 : rd row (i : Int) = row[i] := by rw [rd_nat, getD_lt hlt]
    refine Ev.step (fun k => ?_) (ih (i + 1) (acc ++ [row[i] % 256]) (by omega) (by simp; omega) ?_)
    · simp only [table_Encode.l2]
      rw [if_pos (by omega), if_pos (by omega), if_pos (by omega), e1, Option.bind_some, if_pos (by simp; omega), succ64 i (by omega)]
    · rw [drop_cons hlt, lows, List.map_cons] at h
      rw [List.append_assoc, List.singleton_append]
      exact h
theorem enc_rows (C : Int) (bands : List Ba) (next : List (List Int)) (brk : List Bool) (bits : List Int) (hb : Ev (fun k => pack_Bits.f k brk) bits) (hbb : ∀ x ∈ bits, 0 ≤ x ∧ x < 256) (hbl : bits.length ≤ 1000000000000)
    (xs : List (List Int)) (hl : xs.length ≤ 1000000) (hr : ∀ x ∈ xs, x.length ≤ 1000) : ∀ (d i : Nat) (acc : List Int), i + d = xs.length → acc.length + 1000 * d ≤ 1000000000000 → (∀ x ∈ acc, 0 ≤ x ∧ x < 256) →
    Ev (fun k => table_Encode.l1 k acc xs (xs.length : Int) (i : Int) C bands next brk) (endB (acc ++ (xs.drop i).flatMap lows) bits, true) := by
  intro d
  induction d with
  | zero =>
    intro i acc hi ha hab
    refine Ev.step (f := fun k => (pack_Bits.f k brk).bind fun t => if acc.length + t.length < 140737488355328 then ((some (acc ++ t : List Int)).bind fun y => (pack_Sum.f k y).bind fun t157 => (pack_Put.f y (wrap64 t157) 4).bind fun t158 => some (t158, true)) else none) (fun k => ?_) ?_
    · simp only [table_Encode.l1]; rw [if_neg (by omega)]
    · rw [List.drop_of_length_le (by omega), List.flatMap_nil, List.append_nil]
      have hbs := app_bytes hab hbb
      have hs := sum_bd (acc ++ bits) 2166136261 (by omega)
      refine Ev.bind hb (Ev.pos (by omega) (Ev.bindc rfl (Ev.bind (sum_ev (acc ++ bits) hbs (by simp; omega)) ?_)))
      have e : wrap64 (sumS (acc ++ bits)) = sumS (acc ++ bits) := w64 (by unfold sumS; omega) (by unfold sumS; omega)
      rw [e]
      refine Ev.bindc (put_eq _ _ _ (by simp; omega)) ?_
      exact Ev.now _
  | succ d ih =>
    intro i acc hi ha hab
    have hlt : i < xs.length := by omega
    have h1 := hr _ (List.getElem_mem hlt)
    refine Ev.step (f := fun k => table_Encode.l2 k acc xs (xs.length : Int) (i : Int) xs[i] (xs[i].length : Int) ((0 : Nat) : Int) C bands next brk) (fun k => ?_) (enc_cells C bands next brk xs _ _ xs[i] (by omega) _ xs[i].length 0 acc (by omega) (by omega) ?_)
    · simp only [table_Encode.l1]
      rw [if_pos (by omega), if_pos (by omega), if_pos (by omega), rdL _ _ hlt]
      rfl
    · rw [succ64 i (by omega), drop_cons hlt, List.flatMap_cons, ← List.append_assoc, List.drop_zero]
      exact ih (i + 1) _ (by omega) (by simp [lows]; omega) (app_bytes hab (lows_bytes _))
theorem enc_bands (C : Int) (bands : List Ba) (next : List (List Int)) (brk : List Bool) (bits : List Int) (hb : Ev (fun k => pack_Bits.f k brk) bits) (hbb : ∀ x ∈ bits, 0 ≤ x ∧ x < 256) (hbl : bits.length ≤ 1000000000000)
    (hl : next.length ≤ 1000000) (hr : ∀ x ∈ next, x.length ≤ 1000) (xs : List Ba) (hxl : xs.length ≤ 1000000) : ∀ (d i : Nat) (acc : List Int), i + d = xs.length → acc.length + 4 * d ≤ 10000000000 → (∀ x ∈ acc, 0 ≤ x ∧ x < 256) →
    Ev (fun k => table_Encode.l0 k acc xs (xs.length : Int) (i : Int) C bands next brk) (endB (acc ++ (xs.drop i).flatMap bandB ++ next.flatMap lows) bits, true) := by
  intro d
  induction d with
  | zero =>
    intro i acc hi ha hab
    refine Ev.step (f := fun k => table_Encode.l1 k acc next (next.length : Int) ((0 : Nat) : Int) C bands next brk) (fun k => ?_) ?_
    · simp only [table_Encode.l0]; rw [if_neg (by omega)]; rfl
    · rw [List.drop_of_length_le (by omega), List.flatMap_nil, List.append_nil]
      have := enc_rows C bands next brk bits hb hbb hbl next hl hr next.length 0 acc (by omega) (by omega) hab
      rw [List.drop_zero] at this
      exact this
  | succ d ih =>
    intro i acc hi ha hab
    have hlt : i < xs.length := by omega
    have e : acc ++ bandB xs[i] = putS acc xs[i].f0 3 ++ [xs[i].f1 % 256] := by unfold bandB; rw [← List.append_assoc, ← putS_app]
    refine Ev.step (f := fun k => table_Encode.l0 k (acc ++ bandB xs[i]) xs (xs.length : Int) ((i + 1 : Nat) : Int) C bands next brk) (fun k => ?_) ?_
    · simp only [table_Encode.l0]
      rw [if_pos (by omega), if_pos (by omega), if_pos (by omega), rdT _ _ hlt, put_eq _ _ _ (by omega), Option.bind_some, Option.bind_some, if_pos (by rw [put3_len]; simp; omega), succ64 i (by omega), e]
    · rw [drop_cons hlt, List.flatMap_cons, ← List.append_assoc acc]
      exact ih (i + 1) _ (by omega) (by rw [List.length_append, bandB_len]; omega) (app_bytes hab (bandB_bytes _))
def headB (C s n : Int) : List Int := [66, 82, 75, 49, C % 256, s % 256, n % 256]
def encB (C : Int) (bands : List Ba) (next : List (List Int)) (bits : List Int) : List Int := endB (headB C next.length bands.length ++ bands.flatMap bandB ++ next.flatMap lows) bits
theorem may_iff {C : Int} {bands : List Ba} {next : List (List Int)} {brk : List Bool} : mayS C bands next brk = true ↔
    (1 ≤ C ∧ C ≤ 255 ∧ 1 ≤ next.length ∧ next.length ≤ 255 ∧ brk.length = next.length ∧ bands.length ≤ 255) ∧ (∀ b ∈ bands, (0 ≤ b.f0 ∧ b.f0 ≤ 16777215) ∧ 0 ≤ b.f1 ∧ b.f1 ≤ 255) ∧ ∀ l ∈ next, (l.length : Int) = C ∧ ∀ n ∈ l, 0 ≤ n ∧ n ≤ 255 := by
  simp only [mayS, Bool.and_eq_true, decide_eq_true_eq, List.all_eq_true, bandOk, rowOk, btw_iff]
theorem enc_ev (C : Int) (bands : List Ba) (next : List (List Int)) (brk : List Bool) (hb : bands.length ≤ 1000000) (hn : next.length ≤ 1000000) (hr : ∀ x ∈ next, x.length ≤ 1000000000000) :
    (mayS C bands next brk = false → Ev (fun k => table_Encode.f k C bands next brk) ([], false)) ∧
    (mayS C bands next brk = true → ∃ bits, IsBits brk bits ∧ Ev (fun k => table_Encode.f k C bands next brk) (encB C bands next bits, true)) := by
  have hm := may_ev C bands next brk (by omega) (by omega) hr
  constructor
  · intro h
    rw [h] at hm
    unfold table_Encode.f
    refine Ev.bind hm (Ev.neg (by decide) (Ev.now _))
  · intro h
    rw [h] at hm
    obtain ⟨h1, h2, h3⟩ := may_iff.1 h
    obtain ⟨bits, he, hi⟩ := bits_ev brk (by omega)
    have hlen := hi.len
    refine ⟨bits, hi, ?_⟩
    unfold table_Encode.f
    refine Ev.bind hm (Ev.pos rfl (Ev.bindc rfl (Ev.bindc rfl (Ev.pos (by simp) ?_))))
    have := enc_bands C bands next brk bits he hi.bytes (by omega) hn (fun x hx => by have := (h3 x hx).1; omega) bands hb bands.length 0 (headB C next.length bands.length) (by omega) (by simp [headB]; omega) (by
      intro x hx
      simp only [headB, List.mem_cons, List.not_mem_nil, or_false] at hx
      omega)
    rw [List.drop_zero] at this
    exact this
def bandAt (l : List Int) (i : Nat) : Ba := ⟨be 0 ((l.drop (7 + 4 * i)).take 3), l.getD (10 + 4 * i) 0⟩
def trowAt (l : List Int) (at_ C i : Nat) : List Int := (l.drop (at_ + i * C)).take C
def sealedS (l : List Int) : Bool := (getS l ((l.length : Int) - 4) 4).1 % 4294967296 == sumS (l.take (l.length - 4))
abbrev De := Int × (List Ba) × (List (List Int)) × List Bool × Int
def errS (e : Int) : De := (0, [], [], [], e)
theorem sealed_ev (l : List Int) (hb : ∀ x ∈ l, 0 ≤ x ∧ x < 256) (hl : l.length ≤ 1000000000000) (h4 : 4 ≤ l.length) : Ev (fun k => table_sealed.f k l) (sealedS l) := by
  unfold table_sealed.f sealedS
  have e : wrap64 ((l.length : Int) - 4) = ((l.length - 4 : Nat) : Int) := by rw [w64 (by omega) (by omega)]; omega
  have e' : ((l.length : Int) - 4) = ((l.length - 4 : Nat) : Int) := by omega
  rw [e, e']
  refine Ev.bind (get_ev l _ 4 hb (by omega) (by omega)) (Ev.pos (by omega) (Ev.pos (by omega) (Ev.bind (sum_ev _ (fun x hx => hb x (List.mem_of_mem_take hx)) (by simp; omega)) ?_)))
  rw [show ((l.length - 4 : Nat) : Int).toNat = l.length - 4 by omega]
  exact Ev.now _
theorem dec_cells (l : List Int) (s x7 : Int) (x96 x97 C : Int) (bands : List Ba) (rows : List (List Int)) (y : List Int) (hy : ∀ x ∈ y, 0 ≤ x ∧ x < 256) (hl : y.length ≤ 1000000000) (hrows : rows.length < 5864062014805) (r : De)
    (h : Ev (fun k => table_Decode.l1 k l s (wrap64 (x7 + C)) x96 (wrap64 (x97 + 1)) C bands (rows ++ [y])) r) : ∀ (d i : Nat), i + d = y.length →
    Ev (fun k => table_Decode.l2 k l s x7 (y.take i) x96 x97 y (y.length : Int) (i : Int) C bands rows) r := by
  intro d
  induction d with
  | zero =>
    intro i hi
    refine Ev.step (fun k => ?_) h
    simp only [table_Decode.l2]
    rw [if_neg (by omega), if_pos hrows, List.take_of_length_le (by omega)]
  | succ d ih =>
    intro i hi
    have hlt : i < y.length := by omega
    have e1 : rd y (i : Int) = y[i] := by rw [rd_nat, getD_lt hlt]
    have hx := hy _ (List.getElem_mem hlt)
    have e3 : y.take (i + 1) = y.take i ++ [y[i]] := by rw [List.take_add_one, List.getElem?_eq_getElem hlt]; rfl
    refine Ev.step (fun k => ?_) (ih (i + 1) (by omega))
    simp only [table_Decode.l2]
    rw [if_pos (by omega), if_pos (by omega), if_pos (by omega), if_pos (by simp; omega), e1, w64 (by omega) (by omega), succ64 i (by omega), e3]
theorem dec_rows (l : List Int) (hb : ∀ x ∈ l, 0 ≤ x ∧ x < 256) (hl : l.length ≤ 1000000000) (C s at_ : Nat) (bands : List Ba) (hat : at_ + s * C + 4 ≤ l.length) (hs : s ≤ 1000) : ∀ (d i : Nat), i + d = s →
    Ev (fun k => table_Decode.l1 k l (s : Int) ((at_ + i * C : Nat) : Int) (s : Int) (i : Int) (C : Int) bands ((List.range i).map (trowAt l at_ C)))
      (if (unbitsS ((l.take (l.length - 4)).drop (at_ + s * C)) s).2 = true then ((C : Int), bands, (List.range s).map (trowAt l at_ C), (unbitsS ((l.take (l.length - 4)).drop (at_ + s * C)) s).1, 0) else errS 25) := by
  intro d
  induction d with
  | zero =>
    intro i hi
    obtain rfl : i = s := by omega
    have e : wrap64 ((l.length : Int) - 4) = ((l.length - 4 : Nat) : Int) := by rw [w64 (by omega) (by omega)]; omega
    refine Ev.step (f := fun k => (pack_Unbits.f k ((l.take (l.length - 4)).drop (at_ + i * C)) (i : Int)).bind fun bt => if bt.2 = true then some ((C : Int), bands, (List.range i).map (trowAt l at_ C), bt.1, 0) else some (0, [], [], [], 25)) (fun k => ?_) ?_
    · simp only [table_Decode.l1]
      rw [if_neg (by omega), e, if_pos (by omega), if_pos (by omega), if_pos (by omega), show ((l.length - 4 : Nat) : Int).toNat = l.length - 4 by omega, show ((at_ + i * C : Nat) : Int).toNat = at_ + i * C by omega]
    · refine Ev.bind (unbits_ev _ (i : Int) (fun x hx => hb x (List.mem_of_mem_take (List.mem_of_mem_drop hx))) (by simp; omega)) ?_
      split
      · exact Ev.now _
      · exact Ev.now _
  | succ d ih =>
    intro i hi
    have hC : C ≤ s * C := by
      have := Nat.mul_le_mul_right C (show 1 ≤ s by omega)
      omega
    have hi1 : (i + 1) * C ≤ s * C := Nat.mul_le_mul_right C (by omega)
    have hi2 : (i + 1) * C = i * C + C := by rw [Nat.add_mul, Nat.one_mul]
    have e : wrap64 (((at_ + i * C : Nat) : Int) + (C : Int)) = ((at_ + (i + 1) * C : Nat) : Int) := by rw [w64 (by omega) (by omega), hi2]; omega
    have hy : (l.take (at_ + (i + 1) * C)).drop (at_ + i * C) = trowAt l at_ C i := by
      unfold trowAt
      rw [List.drop_take, hi2]
      congr 1
      omega
    have hyl : (trowAt l at_ C i).length = C := by unfold trowAt; rw [List.length_take, List.length_drop]; omega
    have hyb : ∀ x ∈ trowAt l at_ C i, 0 ≤ x ∧ x < 256 := fun x hx => hb x (List.mem_of_mem_drop (List.mem_of_mem_take hx))
    refine Ev.step (f := fun k => table_Decode.l2 k l (s : Int) ((at_ + i * C : Nat) : Int) ((trowAt l at_ C i).take 0) (s : Int) (i : Int) (trowAt l at_ C i) ((trowAt l at_ C i).length : Int) ((0 : Nat) : Int) (C : Int) bands ((List.range i).map (trowAt l at_ C))) (fun k => ?_)
      (dec_cells l (s : Int) _ _ _ _ bands _ (trowAt l at_ C i) hyb (by omega) (by simp; omega) _ ?_ (trowAt l at_ C i).length 0 (by omega))
    · simp only [table_Decode.l1]
      rw [if_pos (by omega), if_pos (by omega), e, if_pos (by omega), if_pos (by omega), show ((at_ + (i + 1) * C : Nat) : Int).toNat = at_ + (i + 1) * C by omega, show ((at_ + i * C : Nat) : Int).toNat = at_ + i * C by omega, Option.bind_some, hy]
      rfl
    · rw [e, succ64 i (by omega)]
      have e2 : (List.range i).map (trowAt l at_ C) ++ [trowAt l at_ C i] = (List.range (i + 1)).map (trowAt l at_ C) := by rw [List.range_succ, List.map_append]; rfl
      rw [e2]
      exact ih (i + 1) (by omega)
def bodyS (l : List Int) (C s n : Nat) : De :=
  if (unbitsS ((l.take (l.length - 4)).drop (7 + 4 * n + s * C)) s).2 = true then ((C : Int), (List.range n).map (bandAt l), (List.range s).map (trowAt l (7 + 4 * n) C), (unbitsS ((l.take (l.length - 4)).drop (7 + 4 * n + s * C)) s).1, 0) else errS 25
theorem dec_bands (l : List Int) (hb : ∀ x ∈ l, 0 ≤ x ∧ x < 256) (hl : l.length ≤ 1000000000) (C s n : Nat) (hat : 7 + 4 * n + s * C + 4 ≤ l.length) (hs : s ≤ 1000) (hn : n ≤ 1000) : ∀ (d i : Nat), i + d = n →
    Ev (fun k => table_Decode.l0 k l (s : Int) ((7 + 4 * i : Nat) : Int) (n : Int) (i : Int) (C : Int) ((List.range i).map (bandAt l))) (bodyS l C s n) := by
  intro d
  induction d with
  | zero =>
    intro i hi
    obtain rfl : i = n := by omega
    refine Ev.step (f := fun k => table_Decode.l1 k l (s : Int) ((7 + 4 * i + 0 * C : Nat) : Int) (s : Int) ((0 : Nat) : Int) (C : Int) ((List.range i).map (bandAt l)) ((List.range 0).map (trowAt l (7 + 4 * i) C))) (fun k => ?_) (dec_rows l hb hl C s (7 + 4 * i) _ hat hs s 0 (by omega))
    simp only [table_Decode.l0]
    rw [if_neg (by omega), Nat.zero_mul, Nat.add_zero]
    rfl
  | succ d ih =>
    intro i hi
    have hg := get_ev l ((7 + 4 * i : Nat) : Int) 3 hb (by omega) (by omega)
    have eg : getS l ((7 + 4 * i : Nat) : Int) 3 = (be 0 ((l.drop (7 + 4 * i)).take 3), true) := by
      unfold getS
      rw [if_pos (by unfold getOk; exact decide_eq_true (by omega))]
      rw [show ((7 + 4 * i : Nat) : Int).toNat = 7 + 4 * i by omega]
      rfl
    rw [eg] at hg
    have e1 : wrap64 (((7 + 4 * i : Nat) : Int) + 3) = ((10 + 4 * i : Nat) : Int) := by rw [w64 (by omega) (by omega)]; omega
    have e2 : wrap64 (((7 + 4 * i : Nat) : Int) + 4) = ((7 + 4 * (i + 1) : Nat) : Int) := by rw [w64 (by omega) (by omega)]; omega
    have hx := range_of l (fun x => 0 ≤ x ∧ x < 256) hb (by omega) (10 + 4 * i)
    have e3 : wrap64 (rd l ((10 + 4 * i : Nat) : Int)) = l.getD (10 + 4 * i) 0 := by rw [rd_nat, w64 (by omega) (by omega)]
    refine Ev.step (f := fun k => (pack_Get.f k l ((7 + 4 * i : Nat) : Int) 3).bind fun bt => if 0 ≤ wrap64 (((7 + 4 * i : Nat) : Int) + 3) then (if wrap64 (((7 + 4 * i : Nat) : Int) + 3) < (l.length : Int) then (if ((List.range i).map (bandAt l)).length < 8796093022208 then table_Decode.l0 k l (s : Int) (wrap64 (((7 + 4 * i : Nat) : Int) + 4)) (n : Int) (wrap64 ((i : Int) + 1)) (C : Int) ((List.range i).map (bandAt l) ++ [(⟨bt.1, wrap64 (rd l (wrap64 (((7 + 4 * i : Nat) : Int) + 3)))⟩ : Ba)]) else none) else none) else none) (fun k => ?_) ?_
    · simp only [table_Decode.l0]
      rw [if_pos (by omega)]
    · refine Ev.bind hg ?_
      rw [e1, e2, e3, succ64 i (by omega)]
      refine Ev.pos (by omega) (Ev.pos (by omega) (Ev.pos (by simp; omega) ?_))
      have e4 : (List.range i).map (bandAt l) ++ [(⟨be 0 ((l.drop (7 + 4 * i)).take 3), l.getD (10 + 4 * i) 0⟩ : Ba)] = (List.range (i + 1)).map (bandAt l) := by rw [List.range_succ, List.map_append]; rfl
      show Ev (fun k => table_Decode.l0 k l (s : Int) ((7 + 4 * (i + 1) : Nat) : Int) (n : Int) ((i + 1 : Nat) : Int) (C : Int) ((List.range i).map (bandAt l) ++ [(⟨be 0 ((l.drop (7 + 4 * i)).take 3), l.getD (10 + 4 * i) 0⟩ : Ba)])) _
      rw [e4]
      exact ih (i + 1) (by omega)
def countsOk (l : List Int) : Bool := decide ((1 ≤ l.getD 4 0 ∧ l.getD 4 0 ≤ 8) ∧ (1 ≤ l.getD 5 0 ∧ l.getD 5 0 ≤ 5) ∧ (1 ≤ l.getD 6 0 ∧ l.getD 6 0 ≤ 60) ∧ lenS (l.getD 4 0) (l.getD 5 0) (l.getD 6 0) = l.length)
def decS (l : List Int) : De :=
  if l.length < 11 then errS 21 else if l.take 4 ≠ [66, 82, 75, 49] then errS 22 else if sealedS l = false then errS 23 else if countsOk l = false then errS 24
  else bodyS l (l.getD 4 0).toNat (l.getD 5 0).toNat (l.getD 6 0).toNat
theorem take4 {l : List Int} (h : 4 ≤ l.length) : l.take 4 = [l.getD 0 0, l.getD 1 0, l.getD 2 0, l.getD 3 0] := by
  match l, h with
  | a :: b :: c :: d :: r, _ => rfl
theorem dec_ev (l : List Int) (hb : ∀ x ∈ l, 0 ≤ x ∧ x < 256) (hl : l.length ≤ 1000000000) : Ev (fun k => table_Decode.f k l) (decS l) := by
  unfold table_Decode.f decS
  by_cases h0 : l.length < 11
  · rw [if_pos h0]
    exact Ev.pos (by omega) (Ev.now _)
  rw [if_neg h0]
  refine Ev.neg (by omega) (Ev.pos (by omega) (Ev.bindc rfl ?_))
  have ht := take4 (l := l) (by omega)
  rw [ht]
  refine Ev.pos (by simp) (Ev.pos (by simp) (Ev.pos (by simp) (Ev.pos (by simp) (Ev.bindc rfl ?_))))
  show Ev (fun k => if l.getD 0 0 = 66 then (if l.getD 1 0 = 82 then (if l.getD 2 0 = 75 then (if l.getD 3 0 = 49 then _ else _) else _) else _) else _) _
  by_cases m0 : l.getD 0 0 = 66
  case neg =>
    rw [if_pos (fun h => m0 (List.cons.inj h).1)]; exact Ev.neg m0 (Ev.now _)
  by_cases m1 : l.getD 1 0 = 82
  case neg =>
    rw [if_pos (fun h => m1 (List.cons.inj (List.cons.inj h).2).1)]; exact Ev.pos m0 (Ev.neg m1 (Ev.now _))
  by_cases m2 : l.getD 2 0 = 75
  case neg =>
    rw [if_pos (fun h => m2 (List.cons.inj (List.cons.inj (List.cons.inj h).2).2).1)]; exact Ev.pos m0 (Ev.pos m1 (Ev.neg m2 (Ev.now _)))
  by_cases m3 : l.getD 3 0 = 49
  case neg =>
    rw [if_pos (fun h => m3 (List.cons.inj (List.cons.inj (List.cons.inj (List.cons.inj h).2).2).2).1)]; exact Ev.pos m0 (Ev.pos m1 (Ev.pos m2 (Ev.neg m3 (Ev.now _))))
  rw [if_neg (fun h => h (by rw [m0, m1, m2, m3]))]
  refine Ev.pos m0 (Ev.pos m1 (Ev.pos m2 (Ev.pos m3 (Ev.bind (sealed_ev l hb (by omega) (by omega)) ?_))))
  cases hs : sealedS l with
  | false => rw [if_pos rfl]; exact Ev.neg (by decide) (Ev.now _)
  | true =>
  rw [if_neg (by decide)]
  have b4 := range_of l (fun x => 0 ≤ x ∧ x < 256) hb (by omega) 4
  have b5 := range_of l (fun x => 0 ≤ x ∧ x < 256) hb (by omega) 5
  have b6 := range_of l (fun x => 0 ≤ x ∧ x < 256) hb (by omega) 6
  have r4 : wrap64 (rd l 4) = l.getD 4 0 := by rw [show (4 : Int) = ((4 : Nat) : Int) from rfl, rd_nat, w64 (by omega) (by omega)]
  have r5 : wrap64 (rd l 5) = l.getD 5 0 := by rw [show (5 : Int) = ((5 : Nat) : Int) from rfl, rd_nat, w64 (by omega) (by omega)]
  have r6 : wrap64 (rd l 6) = l.getD 6 0 := by rw [show (6 : Int) = ((6 : Nat) : Int) from rfl, rd_nat, w64 (by omega) (by omega)]
  rw [r4, r5, r6]
  have hbad : countsOk l = false → Ev (fun k => table_Decode.j0 k l (l.getD 5 0) (l.getD 6 0) true (l.getD 4 0)) (if countsOk l = false then errS 24 else bodyS l (l.getD 4 0).toNat (l.getD 5 0).toNat (l.getD 6 0).toNat) := by
    intro h
    rw [if_pos h]
    exact Ev.step (f := fun _ => some (errS 24)) (fun k => by simp [table_Decode.j0, errS]) (Ev.now _)
  refine Ev.pos rfl (Ev.pos (by omega) (Ev.pos (by omega) (Ev.pos (by omega) (Ev.bindc (btw_eq _ _ _) ?_))))
  by_cases c4 : 1 ≤ l.getD 4 0 ∧ l.getD 4 0 ≤ 8
  case neg =>
    exact Ev.neg (fun h => c4 (btw_iff.1 h)) (hbad (decide_eq_false (fun h => c4 h.1)))
  refine Ev.pos (btw_iff.2 c4) (Ev.bindc (btw_eq _ _ _) ?_)
  by_cases c5 : 1 ≤ l.getD 5 0 ∧ l.getD 5 0 ≤ 5
  case neg =>
    exact Ev.neg (fun h => c5 (btw_iff.1 h)) (hbad (decide_eq_false (fun h => c5 h.2.1)))
  refine Ev.pos (btw_iff.2 c5) (Ev.bindc (btw_eq _ _ _) ?_)
  by_cases c6 : 1 ≤ l.getD 6 0 ∧ l.getD 6 0 ≤ 60
  case neg =>
    exact Ev.neg (fun h => c6 (btw_iff.1 h)) (hbad (decide_eq_false (fun h => c6 h.2.2.1)))
  refine Ev.pos (btw_iff.2 c6) (Ev.bindc (tlen_eq _ _ _) ?_)
  by_cases cl : lenS (l.getD 4 0) (l.getD 5 0) (l.getD 6 0) = l.length
  case neg =>
    rw [show (lenS (l.getD 4 0) (l.getD 5 0) (l.getD 6 0) != (l.length : Int)) = true by simpa using cl]
    exact hbad (decide_eq_false (fun h => cl h.2.2.2))
  rw [show (lenS (l.getD 4 0) (l.getD 5 0) (l.getD 6 0) != (l.length : Int)) = false by simpa using cl]
  rw [show countsOk l = true from decide_eq_true ⟨c4, c5, c6, cl⟩, if_neg (by decide)]
  generalize l.getD 4 0 = C at *
  generalize l.getD 5 0 = s at *
  generalize l.getD 6 0 = n at *
  obtain ⟨C, rfl⟩ := Int.eq_ofNat_of_zero_le b4.1
  obtain ⟨s, rfl⟩ := Int.eq_ofNat_of_zero_le b5.1
  obtain ⟨n, rfl⟩ := Int.eq_ofNat_of_zero_le b6.1
  have hlen : (l.length : Int) = 11 + 4 * (n : Int) + (C : Int) * (s : Int) + ((s : Int) + 7) / 8 := by
    rw [← cl]; unfold lenS; rw [if_pos (by omega)]
  have hcs : (C : Int) * (s : Int) = ((s * C : Nat) : Int) := by rw [Nat.mul_comm]; simp
  rw [hcs] at hlen
  rw [Int.toNat_natCast, Int.toNat_natCast, Int.toNat_natCast]
  refine Ev.step (f := fun k => table_Decode.l0 k l (s : Int) ((7 + 4 * 0 : Nat) : Int) (n : Int) ((0 : Nat) : Int) (C : Int) ((List.range 0).map (bandAt l))) (fun k => ?_) (dec_bands l hb hl C s n (by omega) (by omega) (by omega) n 0 (by omega))
  simp only [table_Decode.j0]
  rw [if_neg (by decide)]
  rfl
end Go.Proofs.Ytpcbhghgommijaa.XTable
end
